/- Automata joined and repeated, as the reference does it. -/
import Derived.Test.YtpecepipllbghaaDoorOh
set_option linter.unusedSimpArgs false
set_option linter.unusedVariables false
namespace Go.Fw
open Go Go.Proofs
set_option linter.unusedSectionVars false
set_option linter.unnecessarySimpa false

/-- Moves between so many states, so many of them. -/
structure MsG (N : Int) (k : Nat) (ms : List Mv) : Prop where
  ok : msOk N ms
  len : ms.length = k
theorem MsG.snoc {N : Int} {k : Nat} {ms : List Mv} (h : MsG N k ms) {m : Mv} (h1 : 0 ≤ m.f ∧ m.f < N) (h2 : 0 ≤ m.t ∧ m.t < N) : MsG N (k + 1) (ms ++ [m]) := by
  refine ⟨fun x hx => ?_, by simp [h.len]⟩
  rcases List.mem_append.1 hx with hx | hx
  · exact h.ok x hx
  · simp at hx; subst hx; exact ⟨h1, h2⟩
theorem MvG.wide {a : Df} {k : Nat} {ms : List Mv} (h : MvG a k ms) {N : Int} (hN : a.next.length ≤ N) : MsG N k ms :=
  ⟨fun x hx => by have := h.ok x hx; unfold inst at *; omega, h.len⟩
theorem ends_in {a : Df} (h : okDf a = true) : (∀ x ∈ listE a.ends, 0 ≤ x ∧ x < a.next.length) ∧ (listE a.ends).length ≤ 40 := by
  obtain ⟨n1, n2, n3⟩ := okDf_len h
  refine ⟨fun x hx => ?_, ?_⟩
  · have := listE_in hx; omega
  · have := listE_le a.ends; omega
/-- An automaton, and if it could be made. -/
def MadeR (r : List D) : Prop := ∃ (x : Df) (ok : Bool), r = [x.d, .bool ok] ∧ (ok = true → okDf x = true)

set_option maxRecDepth 100000 in
theorem c_l11Star (a : Df) (h : okDf a = true) : TCalls Tryd.prog 82 [.d a.d] MadeR := by
  refine tcalls_intro Ty.mixed Tryd.func82 rfl rfl rfl [1] (by kernel_rfl) (by simp) ?_
  obtain ⟨n1, n2, n3⟩ := okDf_len h
  obtain ⟨he1, he2⟩ := ends_in h
  simp [Df.d]
  refine .freshF 1201 false (c_NfaOf a h) rfl (by simp [Df.d]) (by simp) (by omega) ?_
  rintro _ _ ⟨ms0, hms0, rfl, rfl⟩
  refine ⟨⟨by simp, by simp; omega, .inr (.inl rfl)⟩, ?_⟩
  rw [after_new2 (by omega) (by omega) (by omega) rfl rfl]
  generalize hES : listE a.ends = es at *
  have hw0 := hms0.wide (N := (a.next.length : Int) + 1) (by omega)
  have hl0 := hms0.len
  have hs0 := hw0.snoc (m := ⟨a.next.length, -1, 0⟩) (by show (0 : Int) ≤ a.next.length ∧ (a.next.length : Int) < a.next.length + 1; omega) (by show (0 : Int) ≤ 0 ∧ (0 : Int) < a.next.length + 1; omega)
  have hwn : IntKind.i64.wrap ((a.next.length : Int) + 1) = a.next.length + 1 := wrap64 (by omega) (by omega)
  simp [AV.back, AV.kp, AV.kpL, AV.ren, AV.renL, outE, renOf, posOf, hl0, hwn]
  refine ⟨⟨by omega, by omega⟩, ?_⟩
  refine LoopVC.at { g : Nat × List Mv // g.1 ≤ es.length ∧ MsG ((a.next.length : Int) + 1) (3 * a.next.length + 1 + g.1) g.2 } (fun g => [(2, .ptr 200 0), (4, iA a.next.length), (5, .ptr 500 0), (6, .ptr 600 0), (7, iA g.1.1)])
    (fun g => [(200, .bx [.nl, .nl]), (500, .bx [iA a.next.length, .unk, .sl 1 1202 0 1, .d (intsD es)]), (600, .bx [iA ((a.next.length : Int) + 1), .sl 3 1201 0 (3 * a.next.length + 1 + g.1.1), .sl 1 1800 0 1, .sl 1 2000 0 1]), (1201, .ar 3 (g.1.2.map Mv.d)), (1202, .ar 1 [iD 0]), (1800, .ar 1 [iD a.next.length]), (2000, .ar 1 [iD a.next.length])]) [200, 500, 600, 1201, 1202, 1800, 2000] (fun g => es.length - g.1.1) ⟨(0, _), by simp, hs0⟩ (by simp) (by simp [Mv.d]) ?_
  rintro ⟨⟨k, ms⟩, hk, hms⟩
  simp only at hk hms
  have hml := hms.len
  rcases Nat.lt_or_ge k es.length with hk' | hk'
  · have hee := he1 _ (List.getElem_mem hk')
    have hnn := hms.snoc (m := ⟨es[k], -1, a.next.length⟩) (by show (0 : Int) ≤ es[k] ∧ es[k] < (a.next.length : Int) + 1; omega) (by show (0 : Int) ≤ a.next.length ∧ (a.next.length : Int) < a.next.length + 1; omega)
    simp [hk']
    refine .one (sch [.pur 0, .pur 1, .pur 2, .pur 3, .pur 4, .pur 5, .pur 6, .pur 7, .pur 8, .eff 9 [0, 1], .eff 10 [], .pur 11, .eff 12 []]) (by kernel_rfl) ?_
    simp [hk', hml]
    refine ⟨⟨by omega, by omega⟩, k + 1, ms ++ [⟨es[k], -1, a.next.length⟩], .mk ?_ ?_, ⟨hk', hnn⟩, by omega⟩
    · simp; exact wrap64 (by omega) (by omega)
    · simp [Mv.d]; omega
  · have : k = es.length := by omega
    subst this
    have hc := c_l9Dfa ⟨(a.next.length : Int) + 1, ms, [(a.next.length : Int)], [(a.next.length : Int)]⟩ (by show (0 : Int) ≤ (a.next.length : Int) + 1 ∧ (a.next.length : Int) + 1 ≤ 1000; omega) hms.ok (by show ms.length ≤ _; omega) (by intro x hx; simp at hx; subst hx; show (0 : Int) ≤ a.next.length ∧ (a.next.length : Int) < a.next.length + 1; omega) (by simp) (by intro x hx; simp at hx; subst hx; show (0 : Int) ≤ a.next.length ∧ (a.next.length : Int) < a.next.length + 1; omega) (by simp)
    simp only [Na.d] at hc
    simp
    refine .tdropE hc rfl ?_ (by simp; omega) ?_
    · simp
      exact List.take_of_length_le (by simp [hml])
    rintro _ ⟨x, ok, rfl, hx⟩
    simp [Df.d]
    exact ⟨x, ok, rfl, hx⟩

theorem MsG.zero {N : Int} : MsG N 0 [] := ⟨by simp [msOk], rfl⟩

set_option maxRecDepth 100000 in
theorem c_l11Join (a b : Df) (h : okDf a = true) (hb : okDf b = true) : TCalls Tryd.prog 80 [.d a.d, .d b.d] MadeR := by
  refine tcalls_intro Ty.mixed Tryd.func80 rfl rfl rfl [2, 3] (by kernel_rfl) (by simp) ?_
  obtain ⟨n1, n2, n3⟩ := okDf_len h
  obtain ⟨m1, m2, m3⟩ := okDf_len hb
  obtain ⟨he1, he2⟩ := ends_in h
  obtain ⟨hf1, hf2⟩ := ends_in hb
  simp [Df.d]
  refine .freshF 1801 false (c_NfaOf a h) rfl (by simp [Df.d]) (by simp) (by omega) ?_
  rintro _ _ ⟨ms0, hms0, rfl, rfl⟩
  refine ⟨⟨by simp, by simp; omega, .inr (.inl rfl)⟩, ?_⟩
  rw [after_new2 (by omega) (by omega) (by omega) rfl rfl]
  generalize listE a.ends = es at *
  simp [AV.back, AV.kp, AV.kpL, AV.ren, AV.renL, outE, renOf, posOf]
  refine .freshF 2001 false (c_NfaOf b hb) rfl (by simp [Df.d]) (by simp) (by omega) ?_
  rintro _ _ ⟨mt0, hmt0, rfl, rfl⟩
  refine ⟨⟨by simp, by simp; omega, .inr (.inl rfl)⟩, ?_⟩
  rw [after_new2 (by omega) (by omega) (by omega) rfl rfl]
  generalize listE b.ends = fs at *
  generalize hN : (a.next.length : Int) + b.next.length = N
  have hw0 := hms0.wide (N := N) (by omega)
  have hl0 := hms0.len
  have hm0 := hmt0.len
  have hwn : IntKind.i64.wrap ((a.next.length : Int) + b.next.length) = N := by rw [hN, wrap64 (by omega) (by omega)]
  simp [AV.back, AV.kp, AV.kpL, AV.ren, AV.renL, outE, renOf, posOf, hl0, hm0, hwn]
  refine LoopVC.wk (Wk.unkBx 700 1 (cs := [iA a.next.length, .sl 3 1801 0 (3 * a.next.length), .sl 1 1802 0 1, .d (intsD es)]) (by simp)) ?_
  refine LoopVC.at { g : Nat × List Mv // g.1 ≤ 3 * b.next.length ∧ MsG N (3 * a.next.length + g.1) g.2 } (fun g => [(4, .ptr 400 0), (5, .d (.bool false)), (6, iA a.next.length), (7, .ptr 700 0), (8, .ptr 800 0), (9, .ptr 900 0), (10, iA g.1.1)])
    (fun g => [(400, .bx [.nl, .nl]), (700, .bx [iA a.next.length, .unk, .sl 1 1802 0 1, .d (intsD es)]), (800, .bx [iA b.next.length, .sl 3 2001 0 (3 * b.next.length), .sl 1 2002 0 1, .d (intsD fs)]), (900, .bx [iA N, .sl 3 1801 0 (3 * a.next.length + g.1.1), .sl 1 2800 0 1, .nl]), (1801, .ar 3 (g.1.2.map Mv.d)), (1802, .ar 1 [iD 0]), (2001, .ar 3 (mt0.map Mv.d)), (2002, .ar 1 [iD 0]), (2800, .ar 1 [iD 0])]) [400, 700, 800, 900, 1801, 1802, 2001, 2002, 2800] (fun g => 3 * b.next.length - g.1.1) ⟨(0, ms0), by simp, hw0⟩ (by simp) (by simp) ?_
  rintro ⟨⟨k, ms⟩, hk, hms⟩
  simp only at hk hms
  have hml := hms.len
  rcases Nat.lt_or_ge k (3 * b.next.length) with hk' | hk'
  · have hkm : k < mt0.length := by omega
    have hmo := hmt0.ok _ (List.getElem_mem hkm)
    generalize hmk : mt0[k] = mv at *
    obtain ⟨mf, ml, mt⟩ := mv
    obtain ⟨⟨o1, o2⟩, o3, o4⟩ := hmo
    simp only at o1 o2 o3 o4
    have w1 : IntKind.i64.wrap (mf + a.next.length) = mf + a.next.length := wrap64 (by omega) (by omega)
    have w2 : IntKind.i64.wrap (mt + a.next.length) = mt + a.next.length := wrap64 (by omega) (by omega)
    have hnn := hms.snoc (m := ⟨mf + a.next.length, ml, mt + a.next.length⟩) (by show 0 ≤ mf + (a.next.length : Int) ∧ mf + (a.next.length : Int) < N; omega) (by show 0 ≤ mt + (a.next.length : Int) ∧ mt + (a.next.length : Int) < N; omega)
    simp [hk', hkm, hmk, Mv.d, w1, w2, show (k : Int) < 3 * b.next.length by omega]
    refine ⟨⟨by omega, by omega, by omega⟩, k + 1, ms ++ [⟨mf + a.next.length, ml, mt + a.next.length⟩], .mk ?_ ?_, ⟨hk', hnn⟩, by omega⟩
    · simp; exact wrap64 (by omega) (by omega)
    · simp [Mv.d]; omega
  · have : k = 3 * b.next.length := by omega
    subst this
    simp
    refine LoopVC.at { g : Nat × List Mv // g.1 ≤ es.length ∧ MsG N (3 * a.next.length + 3 * b.next.length + g.1) g.2 } (fun g => [(4, .ptr 400 0), (5, .d (.bool false)), (6, iA a.next.length), (7, .ptr 700 0), (8, .ptr 800 0), (9, .ptr 900 0), (12, iA g.1.1)])
      (fun g => [(400, .bx [.nl, .nl]), (700, .bx [iA a.next.length, .unk, .sl 1 1802 0 1, .d (intsD es)]), (800, .bx [iA b.next.length, .sl 3 2001 0 (3 * b.next.length), .sl 1 2002 0 1, .d (intsD fs)]), (900, .bx [iA N, .sl 3 1801 0 (3 * a.next.length + 3 * b.next.length + g.1.1), .sl 1 2800 0 1, .nl]), (1801, .ar 3 (g.1.2.map Mv.d)), (1802, .ar 1 [iD 0]), (2001, .ar 3 (mt0.map Mv.d)), (2002, .ar 1 [iD 0]), (2800, .ar 1 [iD 0])]) [400, 700, 800, 900, 1801, 1802, 2001, 2002, 2800] (fun g => es.length - g.1.1) ⟨(0, ms), by simp, hms⟩ (by simp) (by simp) ?_
    rintro ⟨⟨k, ms⟩, hk, hms⟩
    simp only at hk hms
    have hml := hms.len
    rcases Nat.lt_or_ge k es.length with hk' | hk'
    · have hee := he1 _ (List.getElem_mem hk')
      have hnn := hms.snoc (m := ⟨es[k], -1, a.next.length⟩) (by show (0 : Int) ≤ es[k] ∧ es[k] < N; omega) (by show (0 : Int) ≤ a.next.length ∧ (a.next.length : Int) < N; omega)
      simp [hk']
      refine .one (sch [.pur 0, .pur 1, .pur 2, .pur 3, .pur 4, .pur 5, .pur 6, .pur 7, .pur 8, .eff 9 [0, 1], .eff 10 [], .pur 11, .eff 12 []]) (by kernel_rfl) ?_
      simp [hk', hml]
      refine ⟨⟨by omega, by omega⟩, k + 1, ms ++ [⟨es[k], -1, a.next.length⟩], .mk ?_ ?_, ⟨hk', hnn⟩, by omega⟩
      · simp; exact wrap64 (by omega) (by omega)
      · simp [Mv.d]; omega
    · have : k = es.length := by omega
      subst this
      simp
      refine LoopVC.wk (Wk.adoptBx 900 3 901 1 (cs := [iA N, .sl 3 1801 0 (3 * a.next.length + 3 * b.next.length + es.length), .sl 1 2800 0 1, .nl]) (by simp) rfl (by simp)) ?_
      refine LoopVC.at { g : Nat × List Int // g.1 ≤ fs.length ∧ g.2.length = g.1 ∧ ∀ x ∈ g.2, 0 ≤ x ∧ x < N } (fun g => [(4, .ptr 400 0), (5, .d (.bool false)), (6, iA a.next.length), (7, .ptr 700 0), (8, .ptr 800 0), (9, .ptr 900 0), (13, iA g.1.1)])
        (fun g => [(400, .bx [.nl, .nl]), (700, .bx [iA a.next.length, .unk, .sl 1 1802 0 1, .d (intsD es)]), (800, .bx [iA b.next.length, .sl 3 2001 0 (3 * b.next.length), .sl 1 2002 0 1, .d (intsD fs)]), (900, .bx [iA N, .sl 3 1801 0 (3 * a.next.length + 3 * b.next.length + es.length), .sl 1 2800 0 1, .sl 1 901 0 g.1.1]), (901, .ar 1 (g.1.2.map iD)), (1801, .ar 3 (ms.map Mv.d)), (1802, .ar 1 [iD 0]), (2001, .ar 3 (mt0.map Mv.d)), (2002, .ar 1 [iD 0]), (2800, .ar 1 [iD 0])]) [400, 700, 800, 900, 901, 1801, 1802, 2001, 2002, 2800] (fun g => fs.length - g.1.1) ⟨(0, []), by simp, by simp, by simp⟩ (by simp) (by simp) ?_
      rintro ⟨⟨k, ys⟩, hk, hyl, hys⟩
      simp only at hk hyl hys
      rcases Nat.lt_or_ge k fs.length with hk' | hk'
      · have hee := hf1 _ (List.getElem_mem hk')
        have w1 : IntKind.i64.wrap (fs[k] + a.next.length) = fs[k] + a.next.length := wrap64 (by omega) (by omega)
        simp [hk']
        refine .one (sch [.pur 0, .pur 1, .pur 2, .pur 3, .pur 4, .pur 5, .pur 6, .pur 7, .pur 8, .eff 9 [0, 1], .eff 10 [], .pur 11, .eff 12 []]) (by kernel_rfl) ?_
        simp [hk', hyl, w1]
        refine ⟨⟨by omega, by omega⟩, k + 1, ys ++ [fs[k] + a.next.length], .mk ?_ ?_, ⟨hk', by simp [hyl], fun x hx => ?_⟩, by omega⟩
        · simp; exact wrap64 (by omega) (by omega)
        · simp
        · rcases List.mem_append.1 hx with hx | hx
          · exact hys x hx
          · simp at hx; omega
      · have : k = fs.length := by omega
        subst this
        have hc := c_l9Dfa ⟨N, ms, [0], ys⟩ (by show 0 ≤ N ∧ N ≤ 1000; omega) hms.ok (by show ms.length ≤ _; omega) (by intro x hx; simp at hx; subst hx; show (0 : Int) ≤ 0 ∧ 0 < N; omega) (by simp) hys (by show ys.length ≤ _; omega)
        simp only [Na.d] at hc
        simp
        refine .tdropE hc rfl ?_ ?_ ?_
        · simp
          exact ⟨List.take_of_length_le (by simp [hml]), List.take_of_length_le (by simp [hyl])⟩
        · simp; omega
        rintro _ ⟨x, ok, rfl, hx⟩
        simp [Df.d]
        exact ⟨x, ok, rfl, hx⟩
end Go.Fw
