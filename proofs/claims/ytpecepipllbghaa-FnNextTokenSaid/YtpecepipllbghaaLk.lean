/- Rewriters: what is drawn; the one that copies. -/
import Derived.Test.YtpecepipllbghaaLj
import Derived.Test.YtpecepipllbghaaLc
set_option linter.unusedSimpArgs false
set_option linter.unusedVariables false
namespace Go.Fw
open Go Go.Proofs

/-! ### The copying rewriter -/

def copyRw : Rw := ⟨[[0, 0, 0]], [[[97], [98], [99]]], [[]]⟩
theorem copyRw_ok : okRw copyRw = true := by decide
theorem copyRw_fine : copyRw.fine where
  out := by decide
  fin := by decide
  next := by decide
  len := by decide

theorem isL_cases {b : UInt8} (h : isL b = true) : b = 97 ∨ b = 98 ∨ b = 99 := by
  simp [isL, inR] at h
  have : b.toNat = 97 ∨ b.toNat = 98 ∨ b.toNat = 99 := by omega
  rcases this with h | h | h
  · exact .inl (UInt8.toNat_inj.1 h)
  · exact .inr (.inl (UInt8.toNat_inj.1 h))
  · exact .inr (.inr (UInt8.toNat_inj.1 h))

theorem copyRw_run {s : List UInt8} (h : s.all isL = true) : runRw copyRw 0 s = (0, s) := by
  induction s using snocInd with
  | nil => rfl
  | snoc s b ih =>
    simp only [List.all_append, List.all_cons, List.all_nil, Bool.and_true, Bool.and_eq_true] at h
    have e : runRw copyRw 0 (s ++ [b]) = stepRw copyRw (runRw copyRw 0 s) b := by unfold runRw; rw [List.foldl_append]; rfl
    rw [e, ih h.1]
    rcases isL_cases h.2 with rfl | rfl | rfl <;> rfl
theorem copyRw_text {s : List UInt8} (h : textOk s = true) : rewrite copyRw s = s := by
  have ha : s.all isL = true := by simp [textOk, lettersOk] at h; simpa using h.1
  unfold rewrite
  rw [copyRw_ok, h, copyRw_run ha]
  simp [copyRw]

/-! ### What is drawn -/

theorem d_l20Long (code : List UInt8) (hc : code.length ≤ 1048576) (p n : Int) (hp : 0 ≤ p) (hp2 : p ≤ 1099511620000) (hn : -9223372036854775808 ≤ n) :
    RCalls Try.prog 54 [iA n] (rdB (codeD code) p) (Drew code p 40 fun r => ∃ s, r = .one (sD s) ∧ s.length ≤ 200) := by
  refine rcalls_intro Ty.mixed Try.func54 rfl rfl rfl [] (by kernel_rfl) (by simp) ?_
  simp [rdB]
  refine .lend (b := rdB (codeD code) p) (d_l20Word code hc p 0 hp (by omega) (by omega)) (by simp [rdB]) (by simp) rfl (by simp) ?_
  rintro _ _ ⟨p1, rfl, h1, h2, s1, rfl, g1⟩
  simp [rdB]
  refine .lend (b := rdB (codeD code) p1) (d_l20Word code hc p1 0 (by omega) (by omega) (by omega)) (by simp [rdB]) (by simp) rfl (by simp) ?_
  rintro _ _ ⟨p2, rfl, h3, h4, s2, rfl, g2⟩
  simp [rdB]
  refine ⟨by omega, ?_⟩
  refine .lend (b := rdB (codeD code) p2) (d_l20Word code hc p2 0 (by omega) (by omega) (by omega)) (by simp [rdB]) (by simp) rfl (by simp) ?_
  rintro _ _ ⟨p3, rfl, h5, h6, s3, rfl, g3⟩
  simp [rdB]
  refine ⟨by omega, ?_⟩
  refine .lend (b := rdB (codeD code) p3) (d_odd code hc p3 n (by omega) (by omega) hn) (by simp [rdB]) (by simp) rfl (by simp) ?_
  rintro _ _ ⟨p4, rfl, h7, h8, v, rfl⟩
  simp [rdB]
  refine ⟨fun hv => ?_, fun hv => ?_⟩
  · refine ⟨by omega, by omega, by omega, rfl, ?_⟩
    refine .lend (b := rdB (codeD code) p4) (d_pick code hc p4 2 (by omega) (by omega) (by omega)) (by simp [rdB]) (by simp) rfl (by simp) ?_
    rintro _ _ ⟨p5, rfl, h9, h10, w, rfl, hw⟩
    obtain ⟨w1, w2, _⟩ := hw
    have w2 := w2 (by omega)
    obtain rfl | rfl : w = 0 ∨ w = 1 := by omega
    all_goals
      simp [rdB]
      exact ⟨rdB (codeD code) p5, rfl, p5, rfl, by omega, by omega, _, rfl, by simp; omega⟩
  · exact ⟨rdB (codeD code) p4, rfl, p4, rfl, by omega, by omega, _, rfl, by simp only [List.length_append]; omega⟩

theorem d_l20Out (code : List UInt8) (hc : code.length ≤ 1048576) (p : Int) (hp : 0 ≤ p) (hp2 : p ≤ 1099511620000) :
    RCalls Try.prog 135 [] (rdB (codeD code) p) (Drew code p 14 fun r => ∃ s, r = .one (sD s) ∧ s.length ≤ 2) := by
  refine rcalls_intro Ty.mixed Try.func135 rfl rfl rfl [] (by kernel_rfl) (by simp) ?_
  simp [rdB]
  refine .lend (b := rdB (codeD code) p) (d_l20Word code hc p 0 hp (by omega) (by omega)) (by simp [rdB]) (by simp) rfl (by simp) ?_
  rintro _ _ ⟨p1, rfl, h1, h2, s1, rfl, g1⟩
  simp [rdB]
  refine ⟨rfl, ?_⟩
  refine .lend (b := rdB (codeD code) p1) (d_pick code hc p1 4 (by omega) (by omega) (by omega)) (by simp [rdB]) (by simp) rfl (by simp) ?_
  rintro _ _ ⟨p2, rfl, h3, h4, w, rfl, hw⟩
  obtain ⟨w1, w2, _⟩ := hw
  have w2 := w2 (by omega)
  obtain rfl | rfl | rfl | rfl : w = 0 ∨ w = 1 ∨ w = 2 ∨ w = 3 := by omega
  all_goals
    simp [rdB]
    refine ⟨by omega, rdB (codeD code) p2, rfl, p2, rfl, by omega, by omega, _, rfl, ?_⟩
    simp
    try omega

theorem drew_rw (code : List UInt8) {p q : Int} (h1 : p ≤ q) (h2 : q ≤ p + 200) (r : Rw) (hr : r.small) {a b c : List D} (ha : a = r.next.map intsD) (hb : b = r.out.map ssD) (hc : c = r.fin.map sD) :
    ∃ b', [AV.d (D.list (codeD code)), AV.d (iD q)] = List.map AV.d b' ∧ Drew code p 200 (fun r' => ∃ r : Rw, r' = .one r.d ∧ r.small) (RV.one (D.agg [D.list a, D.list b, D.list c])) b' :=
  ⟨rdB (codeD code) q, rfl, q, rfl, h1, h2, r, by subst ha hb hc; rfl, hr⟩

/-- What is drawn of a rewriter: so many states. -/
structure RwUp (k : Nat) (r : Rw) : Prop where
  n : r.next.length = k
  o : r.out.length = k
  f : r.fin.length = k
  nr : ∀ x ∈ r.next, x.length ≤ 3
  orow : ∀ (xs : List (List UInt8)), xs ∈ r.out → xs.length ≤ 3 ∧ ∀ x ∈ xs, x.length ≤ 31
  ft : ∀ x ∈ r.fin, x.length ≤ 31
theorem RwUp.small {k : Nat} {r : Rw} (h : RwUp k r) (hk : k ≤ 3) : r.small where
  next := by have := h.n; omega
  row := fun x hx => by have := h.nr x hx; omega
  out := by have := h.o; omega
  orow := fun x hx => ⟨by have := (h.orow x hx).1; omega, fun y hy => by have := (h.orow x hx).2 y hy; omega⟩
  fin := by have := h.f; omega
  ftext := fun x hx => by have := h.ft x hx; omega
theorem RwUp.snoc {k : Nat} {a : List (List Int)} {b : List (List (List UInt8))} {c : List (List UInt8)} (h : RwUp k ⟨a, b, c⟩) {x : List Int} {y : List (List UInt8)} {z : List UInt8} (hx : x.length = 3) (hy : y.length = 3 ∧ ∀ s ∈ y, s.length ≤ 2) (hz : z.length ≤ 2) : RwUp (k + 1) ⟨a ++ [x], b ++ [y], c ++ [z]⟩ where
  n := by have := h.n; simp_all
  o := by have := h.o; simp_all
  f := by have := h.f; simp_all
  nr := fun v hv => by
    rcases List.mem_append.1 hv with hv | hv
    · exact h.nr v hv
    · rw [List.mem_singleton.1 hv]; omega
  orow := fun v hv => by
    rcases List.mem_append.1 hv with hv | hv
    · exact h.orow v hv
    · rw [List.mem_singleton.1 hv]; exact ⟨by omega, fun s hs => by have := hy.2 s hs; omega⟩
  ft := fun v hv => by
    rcases List.mem_append.1 hv with hv | hv
    · exact h.ft v hv
    · rw [List.mem_singleton.1 hv]; omega
theorem Rw.small.tail {a b c} (h : Rw.small ⟨a, b, c⟩) : Rw.small ⟨a, b, c.tail⟩ where
  next := h.next
  row := h.row
  out := h.out
  orow := h.orow
  fin := by have := h.fin; simp at this ⊢; omega
  ftext := fun x hx => h.ftext x (List.mem_of_mem_tail hx)
theorem Rw.small.setF {a b c} (h : Rw.small ⟨a, b, c⟩) (v : List UInt8) (hv : v.length ≤ 31) : Rw.small ⟨a, b, c.set 0 v⟩ where
  next := h.next
  row := h.row
  out := h.out
  orow := h.orow
  fin := by have := h.fin; simpa using this
  ftext := fun x hx => by
    rcases List.mem_or_eq_of_mem_set hx with hx | rfl
    · exact h.ftext x hx
    · omega
theorem Rw.small.setN {a b c} (h : Rw.small ⟨a, b, c⟩) (v : List Int) (hv : v.length ≤ 31) : Rw.small ⟨a.set 0 v, b, c⟩ where
  next := by have := h.next; simpa using this
  row := fun x hx => by
    rcases List.mem_or_eq_of_mem_set hx with hx | rfl
    · exact h.row x hx
    · omega
  out := h.out
  orow := h.orow
  fin := h.fin
  ftext := h.ftext
theorem Rw.small.setO {a b c} (h : Rw.small ⟨a, b, c⟩) (v : List (List UInt8)) (hv : v.length ≤ 31) (hw : ∀ x ∈ v, x.length ≤ 31) : Rw.small ⟨a, b.set 0 v, c⟩ where
  next := h.next
  row := h.row
  out := by have := h.out; simpa using this
  orow := fun x hx => by
    rcases List.mem_or_eq_of_mem_set hx with hx | rfl
    · exact h.orow x hx
    · exact ⟨by omega, fun y hy => by have := hw y hy; omega⟩
  fin := h.fin
  ftext := h.ftext
theorem take_set_all {α β : Type} (f : α → β) (xs : List α) (v : α) : List.take xs.length ((xs.map f).set 0 (f v)) = (xs.set 0 v).map f := by
  rw [List.take_of_length_le (by simp), List.map_set]

set_option maxRecDepth 100000 in
theorem d_l20Rewriter (code : List UInt8) (hc : code.length ≤ 1048576) (p n : Int) (hp : 0 ≤ p) (hp2 : p ≤ 1099511610000) (hn : -9223372036854775808 ≤ n) :
    RCalls Try.prog 83 [iA n] (rdB (codeD code) p) (Drew code p 200 fun r' => ∃ r : Rw, r' = .one r.d ∧ r.small) := by
  refine rcalls_intro Ty.mixed Try.func83 rfl rfl rfl [] (by kernel_rfl) (by simp) ?_
  simp [rdB]
  refine .lend (b := rdB (codeD code) p) (d_pick code hc p 3 hp (by omega) (by omega)) (by simp [rdB]) (by simp) rfl (by simp) ?_
  rintro _ _ ⟨p1, rfl, h1, h2, m, rfl, hm⟩
  simp [rdB]
  obtain ⟨m1, m2, _⟩ := hm
  have m2 := m2 (by omega)
  rw [wrap64 (n := 1 + m) (by omega) (by omega)]
  generalize hM : 1 + m = M
  refine LoopVC.wk (.trans (Wk.adoptBx 500 0 801 1 (cs := [.nl, .nl, .nl]) (by simp) rfl (by simp)) (.trans (Wk.adoptBx 500 1 802 1 (cs := [.sl 1 801 0 0, .nl, .nl]) (by simp) rfl (by simp)) (Wk.adoptBx 500 2 803 1 (cs := [.sl 1 801 0 0, .sl 1 802 0 0, .nl]) (by simp) rfl (by simp)))) ?_
  refine LoopVC.at { q : (List (List Int) × List (List (List UInt8)) × List (List UInt8)) × Int × Nat // p ≤ q.2.1 ∧ q.2.1 ≤ p + 1 + 59 * q.2.2 ∧ (q.2.2 : Int) ≤ M ∧ RwUp q.2.2 ⟨q.1.1, q.1.2.1, q.1.2.2⟩ } (fun q => [(0, .ptr 1 0), (1, iA n), (4, .ptr 400 0), (5, .ptr 500 0), (6, iA M), (7, iA q.1.2.2)])
    (fun q => [(1, .bx [.d (.list (codeD code)), iA q.1.2.1]), (400, .bx [.nl, .nl, .nl]), (500, .bx [.sl 1 801 0 q.1.1.1.length, .sl 1 802 0 q.1.1.2.1.length, .sl 1 803 0 q.1.1.2.2.length]), (801, .ar 1 (q.1.1.1.map intsD)), (802, .ar 1 (q.1.1.2.1.map ssD)), (803, .ar 1 (q.1.1.2.2.map sD))]) [400, 500, 801, 802, 803] (fun q => M.toNat - q.1.2.2) ⟨(([], [], []), p1, 0), by
      exact ⟨h1, by simp; omega, by simp; omega, ⟨rfl, rfl, rfl, by simp, by simp, by simp⟩⟩⟩ (by simp) (by simp) ?_
  rintro ⟨⟨⟨nx, ox, fx⟩, q, k⟩, hq1, hq2, hk, hu⟩
  simp only at hq1 hq2 hk hu
  have hun := hu.n
  have huo := hu.o
  have huf := hu.f
  simp only at hun huo huf
  by_cases hkM : (k : Int) < M
  · simp [hkM]
    refine LoopVC.at { z : (List Int × List (List UInt8)) × Int × Nat // q ≤ z.2.1 ∧ z.2.1 ≤ q + 15 * z.2.2 ∧ z.2.2 ≤ 3 ∧ z.1.1.length = z.2.2 ∧ z.1.2.length = z.2.2 ∧ ∀ s ∈ z.1.2, s.length ≤ 2 } (fun z => [(0, .ptr 1 0), (1, iA n), (4, .ptr 400 0), (5, .ptr 500 0), (6, iA M), (7, iA k), (8, .sl 1 2000 0 z.1.1.1.length), (9, .sl 1 2100 0 z.1.1.2.length), (10, iA z.1.2.2)])
      (fun z => [(1, .bx [.d (.list (codeD code)), iA z.1.2.1]), (400, .bx [.nl, .nl, .nl]), (500, .bx [.sl 1 801 0 nx.length, .sl 1 802 0 ox.length, .sl 1 803 0 fx.length]), (801, .ar 1 (nx.map intsD)), (802, .ar 1 (ox.map ssD)), (803, .ar 1 (fx.map sD)), (2000, .ar 1 (z.1.1.1.map iD)), (2100, .ar 1 (z.1.1.2.map sD))]) [400, 500, 801, 802, 803, 2000, 2100] (fun z => 3 - z.1.2.2) ⟨(([], []), q, 0), by simp⟩ (by simp) (by simp) ?_
    rintro ⟨⟨⟨row, outs⟩, u, c⟩, hu1, hu2, hc3, hr1, hr2, hr3⟩
    simp only at hu1 hu2 hc3 hr1 hr2 hr3
    rcases Nat.lt_or_ge c 3 with h3 | h3
    · simp [show (c : Int) < 3 by omega]
      refine .lend (b := rdB (codeD code) u) (d_pick code hc u M (by omega) (by omega) (by omega)) (by simp [rdB]) (by simp) rfl (by simp) ?_
      rintro _ _ ⟨u1, rfl, a1, a2, v, rfl, hv⟩
      simp [rdB]
      refine ⟨by omega, ?_⟩
      refine .lend (b := rdB (codeD code) u1) (d_l20Out code hc u1 (by omega) (by omega)) (by simp [rdB]) (by simp) rfl (by simp) ?_
      rintro _ _ ⟨u2, rfl, a3, a4, s, rfl, hs⟩
      simp [rdB]
      refine ⟨by omega, row ++ [v], outs ++ [s], u2, c + 1, .mk (by simp; exact wrap64 (by omega) (by omega)) (by simp), ?_, by omega⟩
      refine ⟨by omega, by omega, by omega, by simp [hr1], by simp [hr2], fun x hx => ?_⟩
      rcases List.mem_append.1 hx with hx | hx
      · exact hr3 x hx
      · rw [List.mem_singleton.1 hx]; exact hs
    · have hc4 : c = 3 := by omega
      subst hc4
      simp
      refine ⟨by omega, by omega, ?_⟩
      refine .one (sch [.pur 0, .pur 1, .pur 2, .eff 3 [0, 1], .eff 4 [0, 1], .eff 5 [], .pur 6, .eff 7 []]) (by kernel_rfl) ?_
      simp
      refine .lend (b := rdB (codeD code) u) (d_l20Out code hc u (by omega) (by omega)) (by simp [rdB]) (by simp) rfl (by simp) ?_
      rintro _ _ ⟨u2, rfl, a3, a4, s, rfl, hs⟩
      simp [rdB]
      refine ⟨by omega, nx ++ [row], ox ++ [outs], fx ++ [s], u2, k + 1, .mk (by simp; exact wrap64 (by omega) (by omega)) (by simp [take_map_all]), ⟨by omega, by omega, by omega, hu.snoc hr1 ⟨hr2, hr3⟩ hs⟩, by omega⟩
  · simp [hkM]
    have hs3 := hu.small (by omega)
    refine .lend (b := rdB (codeD code) q) (d_odd code hc q n (by omega) (by omega) hn) (by simp [rdB]) (by simp) rfl (by simp) ?_
    rintro _ _ ⟨q1, rfl, a1, a2, v, rfl⟩
    simp [rdB]
    refine ⟨fun hv => ?_, fun hv => ?_⟩
    · refine .lend (b := rdB (codeD code) q1) (d_pick code hc q1 4 (by omega) (by omega) (by omega)) (by simp [rdB]) (by simp) rfl (by simp) ?_
      rintro _ _ ⟨q2, rfl, a3, a4, w, rfl, hw⟩
      obtain ⟨w1, w2, _⟩ := hw
      have w2 := w2 (by omega)
      obtain rfl | rfl | rfl | rfl : w = 0 ∨ w = 1 ∨ w = 2 ∨ w = 3 := by omega
      · simp [rdB]
        exact ⟨by omega, by omega, drew_rw code (by omega) (by omega) ⟨nx, ox, fx.tail⟩ hs3.tail (take_map_all _ _) (take_map_all _ _) (by rw [List.map_tail]; exact List.take_of_length_le (by simp))⟩
      · simp [rdB]
        refine .one (schA [.pur 0, .pur 1, .pur 3] (.alt 2 [0, 1, 3] (sch [.eff 4 [0, 1], .pur 5, .pur 6, .pur 7, .eff 8 []]) 4 [0, 1] (sch [.eff 2 [0, 1, 3], .pur 5, .pur 6, .pur 7, .eff 8 []]))) (by kernel_rfl) ?_
        simp
        refine ⟨⟨rfl, ?_⟩, ?_⟩
        · refine .lend (b := rdB (codeD code) q2) (d_pick code hc q2 2 (by omega) (by omega) (by omega)) (by simp [rdB]) (by simp) rfl (by simp) ?_
          rintro _ _ ⟨q3, rfl, a5, a6, u, rfl, hu'⟩
          obtain ⟨u1, u2, _⟩ := hu'
          have u2 := u2 (by omega)
          obtain rfl | rfl : u = 0 ∨ u = 1 := by omega
          all_goals
            simp [rdB]
            refine ⟨by omega, drew_rw code (by omega) (by omega) ⟨nx, ox, fx.set 0 _⟩ (hs3.setF _ ?_) (take_map_all _ _) (take_map_all _ _) (take_set_all _ _ _)⟩
            simp
        · refine .lend (b := rdB (codeD code) q2) (d_pick code hc q2 2 (by omega) (by omega) (by omega)) (by simp [rdB]) (by simp) rfl (by simp) ?_
          rintro _ _ ⟨q3, rfl, a5, a6, u, rfl, hu'⟩
          obtain ⟨u1, u2, _⟩ := hu'
          have u2 := u2 (by omega)
          simp [rdB]
          refine ⟨rfl, ?_⟩
          obtain rfl | rfl : u = 0 ∨ u = 1 := by omega
          all_goals
            simp
            refine ⟨by omega, drew_rw code (by omega) (by omega) ⟨nx, ox, fx.set 0 _⟩ (hs3.setF _ ?_) (take_map_all _ _) (take_map_all _ _) (take_set_all _ _ _)⟩
            simp
      · simp [rdB]
        exact ⟨rfl, by omega, drew_rw code (by omega) (by omega) ⟨nx.set 0 [0, 0], ox, fx⟩ (hs3.setN _ (by simp)) (take_set_all intsD nx [0, 0]) (take_map_all _ _) (take_map_all _ _)⟩
      · simp [rdB]
        exact ⟨rfl, by omega, drew_rw code (by omega) (by omega) ⟨nx, ox.set 0 [[97], [98], [68]], fx⟩ (hs3.setO _ (by simp) (by simp)) (take_map_all _ _) (take_set_all ssD ox [[97], [98], [68]]) (take_map_all _ _)⟩
    · exact drew_rw code (by omega) (by omega) ⟨nx, ox, fx⟩ hs3 (take_map_all _ _) (take_map_all _ _) (take_map_all _ _)

theorem codeD_len2 (code : List UInt8) : (codeD code).length = code.length := by simp [codeD]

end Go.Fw
