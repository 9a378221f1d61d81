/- Automata as automata with choices; the automaton of the sets. -/
import Derived.Test.YtpecepipllbghaaDoorOf
import Derived.Test.YtpecepipllbghaaDoorFwb
set_option linter.unusedSimpArgs false
set_option linter.unusedVariables false
namespace Go.Fw
open Go Go.Proofs
set_option linter.unusedSectionVars false
set_option linter.unnecessarySimpa false

theorem listE_in {xs : List Bool} {x : Int} (h : x ∈ listE xs) : 0 ≤ x ∧ x < xs.length := by
  obtain ⟨g1, g2⟩ := mem_listE.1 h
  refine ⟨g1, ?_⟩
  rcases Nat.lt_or_ge x.toNat xs.length with h | h
  · omega
  · simp [List.getElem?_eq_none h] at g2
theorem listE_le (xs : List Bool) : (listE xs).length ≤ xs.length := by
  have := List.length_filter_le (fun k => xs.getD k false) (List.range xs.length)
  simp only [listE, List.length_map]
  simpa using this

/-- The moves so far. -/
structure MvG (a : Df) (k : Nat) (ms : List Mv) : Prop where
  ok : msOk a.next.length ms
  len : ms.length = k
theorem MvG.snoc {a : Df} {k : Nat} {ms : List Mv} (h : MvG a k ms) {m : Mv} (h1 : 0 ≤ m.f ∧ m.f < a.next.length) (h2 : 0 ≤ m.t ∧ m.t < a.next.length) : MvG a (k + 1) (ms ++ [m]) := by
  refine ⟨fun x hx => ?_, by simp [h.len]⟩
  rcases List.mem_append.1 hx with hx | hx
  · exact h.ok x hx
  · simp at hx; subst hx; exact ⟨h1, h2⟩

def NfaOfR (a : Df) (x : AV) (res : List (Nat × Blk)) : Prop := ∃ ms, MvG a (3 * a.next.length) ms ∧ x = .ag [iA a.next.length, .sl 3 801 0 (3 * a.next.length), .sl 1 1300 0 1, .d (intsD (listE a.ends))] ∧ res = [(801, .ar 3 (ms.map Mv.d)), (1300, .ar 1 [iD 0])]

set_option maxRecDepth 100000 in
theorem c_NfaOf (a : Df) (h : okDf a = true) : FCalls Tryd.prog 88 [.d a.d] (NfaOfR a) := by
  refine fcalls_intro Ty.mixed Tryd.func88 rfl rfl rfl [1] (by kernel_rfl) (by simp) ?_
  obtain ⟨n1, n2, n3⟩ := okDf_len h
  simp [Df.d]
  refine .dval (c_sDfaValid a (fine_of_okDf h)) rfl (by simp [Df.d]) rfl ?_
  simp [h]
  refine .cutAt Unit (fun _ => [(1, .dp [.d (rowsD a.next), .d (bsD a.ends)]), (2, .ptr 200 0), (3, .ptr 300 0)]) (fun _ => [(200, .bx [.d (iD 0), .nl, .nl, .nl]), (300, .bx [iA a.next.length, .nl, .sl 1 1300 0 1, .d (intsD (listE a.ends))]), (1300, .ar 1 [iD 0])]) [200, 300, 1300] (schA [.pur 0, .pur 1, .pur 2, .pur 4, .pur 5] (.alt3 3 [0, 1, 2, 4, 5] (schA [] (.alt 6 [0, 1, 2] (sch [.pur 7, .eff 8 [0, 1, 2, 4, 5, 7], .eff 9 []]) 8 [0, 1, 2, 4, 5] (sch [.eff 6 [0, 1, 2], .pur 7, .eff 9 []]))) 6 [0, 1, 2] (schA [] (.alt 3 [0, 1, 2, 4, 5] (sch [.pur 7, .eff 8 [0, 1, 2, 4, 5, 7], .eff 9 []]) 8 [0, 1, 2, 4, 5] (sch [.eff 3 [0, 1, 2, 4, 5], .pur 7, .eff 9 []]))) 8 [0, 1, 2, 4, 5] (schA [] (.alt 3 [0, 1, 2, 4, 5] (sch [.eff 6 [0, 1, 2], .pur 7, .eff 9 []]) 6 [0, 1, 2] (sch [.eff 3 [0, 1, 2, 4, 5], .pur 7, .eff 9 []]))))) (by kernel_rfl) ?_ ?_
  · simp
    repeat' (first | apply And.intro | (refine .ddat (c_l8List a.ends (by omega)) rfl (by simp) ?_; rintro _ rfl; simp))
    all_goals try trivial
  intro _
  simp
  refine LoopVC.wk (Wk.adoptBx 300 1 801 3 (cs := [iA a.next.length, .nl, .sl 1 1300 0 1, .d (intsD (listE a.ends))]) (by simp) rfl (by simp)) ?_
  refine LoopVC.at { g : Nat × List Mv // g.1 ≤ a.next.length ∧ MvG a (3 * g.1) g.2 } (fun g => [(1, .dp [.d (rowsD a.next), .d (bsD a.ends)]), (2, .ptr 200 0), (3, .ptr 300 0), (4, iA g.1.1)]) (fun g => [(200, .bx [.d (iD 0), .nl, .nl, .nl]), (300, .bx [iA a.next.length, .sl 3 801 0 (3 * g.1.1), .sl 1 1300 0 1, .d (intsD (listE a.ends))]), (1300, .ar 1 [iD 0]), (801, .ar 3 (g.1.2.map Mv.d))]) [200, 300, 801, 1300] (fun g => a.next.length - g.1.1) ⟨(0, []), by simp, by simp [msOk], by simp⟩ (by simp) (by simp) ?_
  rintro ⟨⟨k, ms⟩, hk, hms⟩
  simp only at hk hms
  rcases Nat.lt_or_ge k a.next.length with hkn | hkn
  · simp [hkn]
    refine LoopVC.at { g : Nat × List Mv // g.1 ≤ 3 ∧ MvG a (3 * k + g.1) g.2 } (fun g => [(1, .dp [.d (rowsD a.next), .d (bsD a.ends)]), (2, .ptr 200 0), (3, .ptr 300 0), (4, iA k), (5, iA g.1.1)]) (fun g => [(200, .bx [.d (iD 0), .nl, .nl, .nl]), (300, .bx [iA a.next.length, .sl 3 801 0 (3 * k + g.1.1), .sl 1 1300 0 1, .d (intsD (listE a.ends))]), (1300, .ar 1 [iD 0]), (801, .ar 3 (g.1.2.map Mv.d))]) [200, 300, 801, 1300] (fun g => 3 - g.1.1) ⟨(0, ms), by simp, hms⟩ (by simp) (by simp) ?_
    rintro ⟨⟨c, ms⟩, hc, hms⟩
    simp only at hc hms
    have hml := hms.len
    rcases Nat.lt_or_ge c 3 with hc3 | hc3
    · obtain ⟨g1, g2⟩ := okDf_row h hkn
      have a1 := getD_row (xs := a.next) (i := k) [] hkn
      have a2 := getD_row (xs := a.next.getD k []) (i := c) 0 (by omega)
      have hst := g2 _ (List.mem_of_getElem? a2.1)
      generalize a.next.getD k [] = nr at *
      generalize nr.getD c 0 = t at *
      have l3 : (c : Int) < 3 := by omega
      have hnn := hms.snoc (m := ⟨k, c, t⟩) (by show (0 : Int) ≤ k ∧ (k : Int) < a.next.length; omega) hst
      simp [l3]
      refine .one (sch [.pur 0, .pur 1, .pur 2, .pur 3, .pur 4, .pur 5, .pur 6, .pur 7, .pur 8, .pur 9, .pur 10, .pur 11, .pur 12, .eff 13 [0, 1], .eff 14 [], .pur 15, .eff 16 []]) (by kernel_rfl) ?_
      simp [hkn, a1, a2, g1, hc3, l3, hml]
      refine ⟨⟨by omega, by omega⟩, c + 1, ms ++ [⟨k, c, t⟩], .mk ?_ ?_, ⟨hc3, hnn⟩, by omega⟩
      · simp; exact wrap64 (by omega) (by omega)
      · simp [Mv.d]; omega
    · have : c = 3 := by omega
      subst this
      simp
      refine ⟨k + 1, ms, .mk ?_ ?_, ⟨hkn, hms⟩, by omega⟩
      · simp; exact wrap64 (by omega) (by omega)
      · simp; omega
  · have : k = a.next.length := by omega
    subst this
    simp
    refine ⟨_, ⟨ms, hms, rfl, rfl⟩, fun i b hb => ?_, by simp [keepP, lookH], by simp [keepP, lookH]⟩
    simp at hb
    rcases hb with ⟨rfl, rfl⟩ | ⟨rfl, rfl⟩ <;> simp

/-- May words end in a set? -/
def finP (s : List Bool) (es : List Int) : Bool := es.any fun e => s.getD e.toNat false
def finE (a : Na) (s : List Bool) : Bool := finP s a.es
theorem finP_succ (s : List Bool) {es : List Int} {j : Nat} (h : j < es.length) : finP s (es.take (j + 1)) = (finP s (es.take j) || s.getD es[j].toNat false) := by
  unfold finP; rw [take_snoc h, List.any_append]; simp

set_option maxRecDepth 100000 in
theorem c_l9Dfa (a : Na) (hn : 0 ≤ a.n ∧ a.n ≤ 1000) (hm : msOk a.n a.ms) (h1 : a.ms.length ≤ 9223372036854775807) (hf : ∀ x ∈ a.fs, 0 ≤ x ∧ x < a.n) (h2 : a.fs.length ≤ 9223372036854775807) (he : ∀ x ∈ a.es, 0 ≤ x ∧ x < a.n) (h3 : a.es.length ≤ 9223372036854775807) :
    TCalls Tryd.prog 89 [.d a.d] fun r => ∃ (x : Df) (ok : Bool), r = [x.d, .bool ok] ∧ (ok = true → okDf x = true) := by
  refine tcalls_intro Ty.mixed Tryd.func89 rfl rfl rfl [1] (by kernel_rfl) (by simp) ?_
  have hfl : (firstE a).length = a.n.toNat := by simp [firstE, closeE_len, flagsE_len]
  simp [Na.d]
  refine .tdat (c_l9SubsetsG a 40 (by omega) hn hm h1 hf h2) rfl (by simp [Na.d]) ?_
  rintro _ ⟨k, e1, e2, e3, rfl⟩
  have hmem := metK_ind (nx := nxE a) (s0 := firstE a) (p := fun x => x.length = a.n.toNat) hfl (fun s hs => ⟨nextE_len _ _ _ _, nextE_len _ _ _ _, nextE_len _ _ _ _⟩) k
  simp
  refine ⟨fun hbig => ⟨⟨[], []⟩, rfl⟩, fun hsm => ?_⟩
  have hsm' : (metK (nxE a) (firstE a) k).length ≤ 40 := by omega
  have hlk : (metK (nxE a) (firstE a) k).length ≤ k := by omega
  have hwh := metK_whole hlk
  have htk : (metK (nxE a) (firstE a) k).take k = metK (nxE a) (firstE a) k := List.take_of_length_le hlk
  simp only [← List.map_take, htk]
  generalize metK (nxE a) (firstE a) k = L at *
  refine LoopVC.wk (Wk.adoptBx 600 1 901 1 (cs := [.d (.list (L.map fun s => intsD (rowL (nxE a) L s))), .nl]) (by simp) rfl (by simp)) ?_
  refine LoopVC.at { k : Nat // k ≤ L.length } (fun k => [(1, .dp [iA a.n, .d (.list (a.ms.map Mv.d)), .d (intsD a.fs), .d (intsD a.es)]), (2, .ptr 200 0), (4, .d (.list (L.map bsD))), (6, .ptr 600 0), (7, iA k.1)])
    (fun k => [(200, .bx [.nl, .nl]), (600, .bx [.d (.list (L.map fun s => intsD (rowL (nxE a) L s))), .sl 1 901 0 k.1]), (901, .ar 1 ((L.take k.1).map fun s => bD (finE a s)))]) [200, 600, 901] (fun k => L.length - k.1) ⟨0, by simp⟩ (by simp) (by simp) ?_
  rintro ⟨k, hk⟩
  rcases Nat.lt_or_ge k L.length with hkl | hkl
  · have hps := hmem _ (List.getElem_mem hkl)
    have htk : ∀ f : List Bool → D, (L.map f).take (k + 1) = (L.map f).take k ++ [f L[k]] := fun f => by
      rw [← List.map_take, ← List.map_take, take_snoc hkl, List.map_append]; rfl
    have hf1 := htk fun s => bD (finE a s)
    simp [hkl]
    refine LoopVC.at { j : Nat // j ≤ a.es.length } (fun j => [(1, .dp [iA a.n, .d (.list (a.ms.map Mv.d)), .d (intsD a.fs), .d (intsD a.es)]), (2, .ptr 200 0), (4, .d (.list (L.map bsD))), (6, .ptr 600 0), (7, iA k), (8, .d (.bool (finP L[k] (a.es.take j.1)))), (9, iA j.1)])
      (fun j => [(200, .bx [.nl, .nl]), (600, .bx [.d (.list (L.map fun s => intsD (rowL (nxE a) L s))), .sl 1 901 0 k]), (901, .ar 1 ((L.take k).map fun s => bD (finE a s)))]) [200, 600, 901] (fun j => a.es.length - j.1) ⟨0, by simp⟩ (by simp [finP]) (by simp) ?_
    rintro ⟨j, hj⟩
    rcases Nat.lt_or_ge j a.es.length with hj' | hj'
    · have hej := he _ (List.getElem_mem hj')
      have hsn := finP_succ L[k] hj'
      obtain ⟨e', hee⟩ : ∃ z : Nat, a.es[j] = z := ⟨a.es[j].toNat, by omega⟩
      rw [hee] at hej hsn
      have he' : e' < L[k].length := by omega
      have b1 := getD_row (xs := L[k]) (i := e') false he'
      simp only [Int.toNat_natCast] at hsn
      generalize finP L[k] (a.es.take j) = ev at *
      generalize L[k].getD e' false = v at *
      simp [hj']
      refine .one (sch [.pur 0, .pur 1, .pur 2, .pur 3, .pur 4, .pur 5, .pur 6, .pur 7, .pur 8, .pur 9, .pur 10, .pur 11, .pur 12, .pur 13, .eff 14 []]) (by kernel_rfl) ?_
      simp [hj', hkl, b1, he', hee]
      refine ⟨j + 1, .mk ?_ (by simp), hj', by omega⟩
      simp [hsn]
      exact wrap64 (by omega) (by omega)
    · have : j = a.es.length := by omega
      subst this
      have hev : finP L[k] a.es = finE a L[k] := rfl
      simp [hev]
      refine ⟨⟨by omega, by omega, by omega⟩, k + 1, .mk ?_ ?_, hkl, by omega⟩
      · simp; exact wrap64 (by omega) (by omega)
      · simp [hf1]
  · have : k = L.length := by omega
    subst this
    simp
    refine ⟨autoL (nxE a) (finE a) L, ?_, autoL_ok (finE a) hwh hsm'⟩
    simp only [autoL, Df.d, rowL, rowsD, bsD, List.map_map]
    rw [List.take_of_length_le (by simp)]
    rfl
end Go.Fw
