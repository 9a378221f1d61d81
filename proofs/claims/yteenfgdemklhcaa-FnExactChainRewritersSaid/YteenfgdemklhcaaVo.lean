/- What is exact of ChainRewriters. -/
import Derived.Test.YteenfgdemklhcaaVn
import Derived.Test.YteenfgdemklhcaaMu
set_option linter.unusedSimpArgs false
set_option linter.unusedVariables false
namespace Go.Fw
open Go Go.Proofs
set_option linter.unusedSectionVars false
set_option linter.unnecessarySimpa false

structure G8 where
  R : Rw
  ok : Bool
theorem small_of_okRw {r : Rw} (h : okRw r = true) : r.small := by
  obtain ⟨n1, n2, n3, n4⟩ := okRw_len h
  have hrow : ∀ k, k < r.next.length → (r.next.getD k []).length = 3 ∧ (r.out.getD k []).length = 3 ∧ (r.fin.getD k []).length ≤ 4 ∧ ∀ o ∈ r.out.getD k [], o.length ≤ 4 := fun k hk => by
    obtain ⟨g1, g2, g3, _, g5⟩ := okRw_row h hk
    exact ⟨g1, g2, (isOut_l g3).2, fun o ho => (isOut_l (g5 o ho)).2⟩
  refine ⟨by omega, fun x hx => ?_, by omega, fun xs hx => ?_, by omega, fun x hx => ?_⟩
  · obtain ⟨i, hi, rfl⟩ := List.mem_iff_getElem.1 hx
    have := (hrow i hi).1
    rw [← (getD_row (xs := r.next) (i := i) [] hi).2 hi] at this
    omega
  · obtain ⟨i, hi, rfl⟩ := List.mem_iff_getElem.1 hx
    have := hrow i (by omega)
    rw [← (getD_row (xs := r.out) (i := i) [] hi).2 hi] at this
    exact ⟨by omega, fun x hm => by have := this.2.2.2 x hm; omega⟩
  · obtain ⟨i, hi, rfl⟩ := List.mem_iff_getElem.1 hx
    have := (hrow i (by omega)).2.2.1
    rw [← (getD_row (xs := r.fin) (i := i) [] hi).2 hi] at this
    omega
theorem zeroRw_small : zeroRw.small := ⟨by simp [zeroRw], by simp [zeroRw], by simp [zeroRw], by simp [zeroRw], by simp [zeroRw], by simp [zeroRw]⟩
theorem ChainIs.small {a b R : Rw} {ok : Bool} (h : ChainIs a b R ok) : R.small := by
  rcases h.cases with rfl | h
  · exact zeroRw_small
  · exact small_of_okRw h
theorem chOk (R : Rw) (m m2 : Nat) (h1 : R.next.length ≤ 12) (h2 : R.out.length = R.next.length) : Fam2Ok 2000000000 8700 [(2302, .ar 1 (R.fin.map sD))] 2000000003 (rowsI R.next) 3000000000 (rowsS R.out) := by
  have l1 := rowsI_len R.next
  have l2 := rowsS_len R.out
  refine ⟨⟨by omega, by omega, .inl (by omega), .inl (by omega)⟩, ⟨by omega, by omega, .inl (by omega), .inl (by omega), by omega⟩, fun q hq => ?_, by simp, by omega, by omega, by omega⟩
  simp only [List.mem_cons, List.not_mem_nil, or_false] at hq
  subst hq
  exact ⟨⟨by simp, by simp, .inl (by simp), .inl (by simp), by simp, by simp⟩, rfl⟩
set_option maxRecDepth 100000 in
theorem c_markStringSS0 (k : Nat) : DCalls Try.prog 52 [.d (.list []), iA k] fun y => y = iD k := by
  refine dcalls_intro Ty.mixed Try.func52 rfl rfl rfl [] (by kernel_rfl) (by simp) ?_
  simp
  refine LoopVC.at Unit (fun _ => [(0, .d (.list [])), (1, iA k), (5, iA 0)]) (fun _ => []) [] (fun _ => 0) () (by simp) (by simp) ?_
  rintro ⟨⟩
  simp
set_option maxRecDepth 100000 in
theorem c_markStringS0 (k : Nat) : DCalls Try.prog 53 [.d (ssD []), iA k] fun y => y = iD k := by
  refine dcalls_intro Ty.mixed Try.func53 rfl rfl rfl [] (by kernel_rfl) (by simp) ?_
  simp
  refine LoopVC.at Unit (fun _ => [(0, .d (ssD [])), (1, iA k), (5, iA 0)]) (fun _ => []) [] (fun _ => 0) () (by simp) (by simp) ?_
  rintro ⟨⟩
  simp
set_option maxRecDepth 100000 in
theorem c_markRewriter0 (k : Nat) : DCalls Try.prog 18 [.d zeroRw.d, iA k] fun y => y = iD k := by
  refine dcalls_intro Ty.mixed Try.func18 rfl rfl rfl [2] (by kernel_rfl) (by simp) ?_
  simp [Rw.d, zeroRw]
  refine .dval (c_markIntSS0 k) rfl (by simp) rfl ?_
  simp
  refine .dval (c_markStringSS0 k) rfl (by simp) rfl ?_
  simp
  refine .dval (c_markStringS0 k) rfl (by simp) rfl ?_
  simp
theorem h_held0 : DCalls Try.prog 19 [.d zeroRw.d, iA (1 : Nat)] fun r => r = iD (1 : Nat) :=
  h_heldRewriter zeroRw 1 (by omega) (by simp [zeroRw]) (by simp [zeroRw]) (by simp [zeroRw, Rw.tot, tot, totS])
set_option maxHeartbeats 4000000 in
set_option maxRecDepth 100000 in
theorem c_FnExactChainRewriters (a b : Rw) (ha : a.fine) (hao : a.out.length ≤ 9223372036854775807) (haf : a.fin.length ≤ 9223372036854775807) (hb : b.fine) (hbo : b.out.length ≤ 9223372036854775807) (hbf : b.fin.length ≤ 9223372036854775807) : DCalls Try.prog 4 [.d a.d, .d b.d] fun y => y = .bool true := by
  refine dcalls_intro Ty.mixed Try.func4 rfl rfl rfl [2, 3] (by kernel_rfl) (by simp) ?_
  simp [Rw.d]
  refine .ddat (c_szRewriter a 1048576 (by omega) ha hao haf) rfl (by simp [Rw.d]) ?_
  rintro _ ⟨v, rfl, h1, h2, h3⟩
  simp
  intro hz
  have has := h3 hz
  refine .ddat (c_szRewriter b v (by omega) hb hbo hbf) rfl (by simp [Rw.d]) ?_
  rintro _ ⟨u, rfl, g1, g2, g3⟩
  simp
  intro hu
  have hbs := g3 hu
  refine .cutAt { g : G8 // ChainIs a b g.R g.ok } (fun g => [(2, rwP a), (3, rwP b), (6, .ptr 600 0), (7, .d (.bool g.1.ok))]) (fun g => [(600, .bx [.d (.list (g.1.R.next.map intsD)), .d (.list (g.1.R.out.map ssD)), .d (ssD g.1.R.fin)])]) [600] (schA [.pur 0, .pur 2] (.alt 1 [2] (schA [] (.alt 3 [] (schA [] (.alt 4 [] (sch [.pur 5, .pur 6, .pur 7, .eff 8 [0, 2, 5, 6, 7], .eff 9 [7], .pur 10]) 8 [0, 2] (sch [.eff 4 [], .pur 5, .pur 6, .pur 7, .eff 9 [7], .pur 10]))) 8 [0, 2] (sch [.eff 3 [], .eff 4 [], .pur 5, .pur 6, .pur 7, .eff 9 [7], .pur 10]))) 8 [0, 2] (sch [.eff 1 [2], .eff 3 [], .eff 4 [], .pur 5, .pur 6, .pur 7, .eff 9 [7], .pur 10]))) (by kernel_rfl) ?_ ?_
  · simp
    repeat' apply And.intro
    all_goals try rfl
    all_goals
      refine .ddat (c_toRewriter a has) rfl (by simp [Rw.d]) ?_
      rintro _ rfl
      simp
      repeat' apply And.intro
      all_goals try rfl
      all_goals
        refine .ddat (c_toRewriter b hbs) rfl (by simp [Rw.d]) ?_
        rintro _ rfl
        simp [Rw.d]
        repeat' apply And.intro
        all_goals try rfl
        all_goals
          refine .tdat (c_sChainRewriters a b ha hb) rfl (by simp [Rw.d]) ?_
          rintro _ ⟨R, ok, rfl, hR⟩
          simp [Rw.d]
          exact ⟨⟨R, ok⟩, by simp, hR, rfl, rfl, rfl⟩
  rintro ⟨⟨w, ok⟩, hw⟩
  simp only at hw
  simp
  have n1 := has.next
  have n2 := has.out
  have n3 := has.tot
  have n4 := hbs.next
  have n5 := hbs.out
  have n6 := hbs.tot
  have l1 := rowsI_len a.next
  have l2 := rowsS_len a.out
  have l3 := rowsI_len b.next
  have l4 := rowsS_len b.out
  have hoka := rwOk a has
  have hokb := rwOk b hbs
  refine .freshG 7000000000 (f_toRewriter a has) rfl (by simp [Rw.d]) (by simp) (by omega) ?_
  rintro _ _ ⟨rfl, rfl⟩
  refine ⟨⟨hoka.nodup, hoka.rng, fun j hj => ?_⟩, ?_⟩
  · rw [rwR, fam2R_len] at hj
    simp at hj ⊢
    omega
  rw [rw_back hoka, rwR, hoka.newS]
  simp [rwAV]
  refine .freshG 6000000000 (f_toRewriter b hbs) rfl (by simp [Rw.d]) (by simp) (by omega) ?_
  rintro _ _ ⟨rfl, rfl⟩
  refine ⟨⟨hokb.nodup, hokb.rng, fun j hj => ?_⟩, ?_⟩
  · rw [rwR, fam2R_len] at hj
    simp at hj ⊢
    omega
  rw [rw_back hokb, rwR, hokb.newS]
  simp [rwAV]
  have efa1 : ∀ (i : Nat) (x : List D), (rowsI a.next)[i]? = some x → ∀ (σ : AS) (o1 o2 o3 : Blk), (fam2S σ 7000000000 o1 o2 [o3] (rowsI a.next ++ rowsS a.out)).hp.heap (i + 7000000003) = some (.ar 1 x) := fun i x hx σ o1 o2 o3 => fam2S_at1 hx (by simp only [List.length_cons, List.length_nil])
  have efa2 : ∀ (i : Nat) (x : List D), (rowsS a.out)[i]? = some x → ∀ (σ : AS) (o1 o2 o3 : Blk), (fam2S σ 7000000000 o1 o2 [o3] (rowsI a.next ++ rowsS a.out)).hp.heap (i + (7000000003 + (rowsI a.next).length)) = some (.ar 1 x) := fun i x hx σ o1 o2 o3 => fam2S_at2 hx (by simp only [List.length_cons, List.length_nil])
  have efb1 : ∀ (i : Nat) (x : List D), (rowsI b.next)[i]? = some x → ∀ (σ : AS) (o1 o2 o3 : Blk), (fam2S σ 6000000000 o1 o2 [o3] (rowsI b.next ++ rowsS b.out)).hp.heap (i + 6000000003) = some (.ar 1 x) := fun i x hx σ o1 o2 o3 => fam2S_at1 hx (by simp only [List.length_cons, List.length_nil])
  have efb2 : ∀ (i : Nat) (x : List D), (rowsS b.out)[i]? = some x → ∀ (σ : AS) (o1 o2 o3 : Blk), (fam2S σ 6000000000 o1 o2 [o3] (rowsI b.next ++ rowsS b.out)).hp.heap (i + (6000000003 + (rowsI b.next).length)) = some (.ar 1 x) := fun i x hx σ o1 o2 o3 => fam2S_at2 hx (by simp only [List.length_cons, List.length_nil])
  have hoffb : ∀ (j : Nat), 7000000000 ≤ j → ∀ (σ : AS) (o1 o2 o3 : Blk), (fam2S σ 6000000000 o1 o2 [o3] (rowsI b.next ++ rowsS b.out)).hp.heap j = σ.hp.heap j := fun j hj σ o1 o2 o3 => fam2S_high (by simp only [List.length_cons, List.length_nil, List.length_append]; omega)
  refine .freshE 5000000000 (f_ChainRewriters a b ha hb) (RwAt.view (O1 := 7000000000) (O2 := 7000000001) (F := 7000000002) (b1 := 7000000003) (b2 := (7000000003 + (rowsI a.next).length)) (r1 := 0) (r2 := 0) ⟨by simp [hoffb 7000000000 (by omega), hoffb 7000000001 (by omega), hoffb 7000000002 (by omega)], by simp [hoffb 7000000000 (by omega), hoffb 7000000001 (by omega), hoffb 7000000002 (by omega)], by simp [hoffb 7000000000 (by omega), hoffb 7000000001 (by omega), hoffb 7000000002 (by omega)], fun i x hx => by
      have hi : i < 1048577 := by have := (List.getElem?_eq_some_iff.1 hx).1; omega
      have e_hoffb := hoffb (i + 7000000003) (by omega)
      have hne : ∀ q : Nat, q < 5000000000 → ¬ i + 7000000003 = q := fun q h => by omega
      simp [e_hoffb, efa1 i x hx, hne], fun i x hx => by
      have hi : i < 1048577 := by have := (List.getElem?_eq_some_iff.1 hx).1; omega
      have e_hoffb := hoffb (i + (7000000003 + (rowsI a.next).length)) (by omega)
      have hne : ∀ q : Nat, q < 5000000000 → ¬ i + (7000000003 + (rowsI a.next).length) = q := fun q h => by omega
      simp [e_hoffb, efa2 i x hx, hne]⟩
    (RwAt.view (O1 := 6000000000) (O2 := 6000000001) (F := 6000000002) (b1 := 6000000003) (b2 := (6000000003 + (rowsI b.next).length)) (r1 := 0) (r2 := 0) ⟨by simp, by simp, by simp, fun i x hx => by
      have hi : i < 1048577 := by have := (List.getElem?_eq_some_iff.1 hx).1; omega
      have hne : ∀ q : Nat, q < 5000000000 → ¬ i + 6000000003 = q := fun q h => by omega
      simp [efb1 i x hx, hne], fun i x hx => by
      have hi : i < 1048577 := by have := (List.getElem?_eq_some_iff.1 hx).1; omega
      have hne : ∀ q : Nat, q < 5000000000 → ¬ i + (6000000003 + (rowsI b.next).length) = q := fun q h => by omega
      simp [efb2 i x hx, hne]⟩ (zs := []) ⟨_, _, rfl, trivial⟩)) (by omega) ?_
  rintro _ _ (⟨R, m, m2, hy, yl, yo, yf, rfl, rfl⟩ | ⟨rfl, rfl, hy⟩)
  · obtain ⟨rfl, rfl⟩ := hy.uniq hw
    have hys := hy.small
    have y3 := hys.tot
    have yr1 := rowsI_len R.next
    have yr2 := rowsS_len R.out
    have hoky := chOk R m m2 yl yo
    refine ⟨⟨hoky.nodup, hoky.rng, fun j hj => ?_, by simp [rwAV, AV.flatR, AV.flat2, AV.flat1, D.flat, D.one], fam2R_flat (fun q hq => by
      simp only [List.mem_cons, List.not_mem_nil, or_false] at hq
      subst hq
      simp [Blk.flatR, D.flat, D.one]) (rowsI_flat _) (rowsS_flat _)⟩, ?_⟩
    · rw [rwR, fam2R_len] at hj
      simp at hj ⊢
      omega
    rw [tp_back, rw_back hoky, rwR, hoky.newS]
    simp [rwAV]
    have efr1 : ∀ (i : Nat) (x : List D), (rowsI R.next)[i]? = some x → ∀ (σ : AS) (o1 o2 o3 : Blk), (fam2S σ 5000000000 o1 o2 [o3] (rowsI R.next ++ rowsS R.out)).hp.heap (i + 5000000003) = some (.ar 1 x) := fun i x hx σ o1 o2 o3 => fam2S_at1 hx (by simp only [List.length_cons, List.length_nil])
    have efr2 : ∀ (i : Nat) (x : List D), (rowsS R.out)[i]? = some x → ∀ (σ : AS) (o1 o2 o3 : Blk), (fam2S σ 5000000000 o1 o2 [o3] (rowsI R.next ++ rowsS R.out)).hp.heap (i + (5000000003 + (rowsI R.next).length)) = some (.ar 1 x) := fun i x hx σ o1 o2 o3 => fam2S_at2 hx (by simp only [List.length_cons, List.length_nil])
    have hoffr : ∀ (j : Nat), 6000000000 ≤ j → ∀ (σ : AS) (o1 o2 o3 : Blk), (fam2S σ 5000000000 o1 o2 [o3] (rowsI R.next ++ rowsS R.out)).hp.heap j = σ.hp.heap j := fun j hj σ o1 o2 o3 => fam2S_high (by simp only [List.length_cons, List.length_nil, List.length_append]; omega)
    refine .dvalV (c_eqRewriter R R hys) (RwAt.view (O1 := 5000000000) (O2 := 5000000001) (F := 5000000002) (b1 := 5000000003) (b2 := (5000000003 + (rowsI R.next).length)) (r1 := m) (r2 := m2) ⟨by simp, by simp, by simp, fun i x hx => by
      have hi : i < 1048577 := by have := (List.getElem?_eq_some_iff.1 hx).1; omega
      have hne : ∀ q : Nat, q < 5000000000 → ¬ i + 5000000003 = q := fun q h => by omega
      simp [efr1 i x hx, hne], fun i x hx => by
      have hi : i < 1048577 := by have := (List.getElem?_eq_some_iff.1 hx).1; omega
      have hne : ∀ q : Nat, q < 5000000000 → ¬ i + (5000000003 + (rowsI R.next).length) = q := fun q h => by omega
      simp [efr2 i x hx, hne]⟩ (zs := [.d R.d]) ⟨_, _, rfl, trivial, trivial⟩) rfl ?_
    simp
    refine .one (sch [.pur 0, .pur 1, .eff 2 [0], .eff 3 [], .pur 4]) (by kernel_rfl) ?_
    simp
    refine .ddat (c_toRewriter a has) rfl (by simp [Rw.d]) ?_
    rintro _ rfl
    simp
    refine .dvalV (c_eqRewriter a a has) (RwAt.view (O1 := 7000000000) (O2 := 7000000001) (F := 7000000002) (b1 := 7000000003) (b2 := (7000000003 + (rowsI a.next).length)) (r1 := 0) (r2 := 0) ⟨by simp [hoffr 7000000000 (by omega), hoffr 7000000001 (by omega), hoffr 7000000002 (by omega), hoffb 7000000000 (by omega), hoffb 7000000001 (by omega), hoffb 7000000002 (by omega)], by simp [hoffr 7000000000 (by omega), hoffr 7000000001 (by omega), hoffr 7000000002 (by omega), hoffb 7000000000 (by omega), hoffb 7000000001 (by omega), hoffb 7000000002 (by omega)], by simp [hoffr 7000000000 (by omega), hoffr 7000000001 (by omega), hoffr 7000000002 (by omega), hoffb 7000000000 (by omega), hoffb 7000000001 (by omega), hoffb 7000000002 (by omega)], fun i x hx => by
      have hi : i < 1048577 := by have := (List.getElem?_eq_some_iff.1 hx).1; omega
      have e_hoffr := hoffr (i + 7000000003) (by omega)
      have e_hoffb := hoffb (i + 7000000003) (by omega)
      have hne : ∀ q : Nat, q < 5000000000 → ¬ i + 7000000003 = q := fun q h => by omega
      simp [e_hoffr, e_hoffb, efa1 i x hx, hne], fun i x hx => by
      have hi : i < 1048577 := by have := (List.getElem?_eq_some_iff.1 hx).1; omega
      have e_hoffr := hoffr (i + (7000000003 + (rowsI a.next).length)) (by omega)
      have e_hoffb := hoffb (i + (7000000003 + (rowsI a.next).length)) (by omega)
      have hne : ∀ q : Nat, q < 5000000000 → ¬ i + (7000000003 + (rowsI a.next).length) = q := fun q h => by omega
      simp [e_hoffr, e_hoffb, efa2 i x hx, hne]⟩ (zs := [.d a.d]) ⟨_, _, rfl, trivial, trivial⟩) rfl ?_
    simp
    refine .one (sch [.pur 0, .pur 1, .eff 2 [0], .eff 3 [], .pur 4]) (by kernel_rfl) ?_
    simp
    refine .ddat (c_toRewriter b hbs) rfl (by simp [Rw.d]) ?_
    rintro _ rfl
    simp
    refine .dvalV (c_eqRewriter b b hbs) (RwAt.view (O1 := 6000000000) (O2 := 6000000001) (F := 6000000002) (b1 := 6000000003) (b2 := (6000000003 + (rowsI b.next).length)) (r1 := 0) (r2 := 0) ⟨by simp [hoffr 6000000000 (by omega), hoffr 6000000001 (by omega), hoffr 6000000002 (by omega)], by simp [hoffr 6000000000 (by omega), hoffr 6000000001 (by omega), hoffr 6000000002 (by omega)], by simp [hoffr 6000000000 (by omega), hoffr 6000000001 (by omega), hoffr 6000000002 (by omega)], fun i x hx => by
      have hi : i < 1048577 := by have := (List.getElem?_eq_some_iff.1 hx).1; omega
      have e_hoffr := hoffr (i + 6000000003) (by omega)
      have hne : ∀ q : Nat, q < 5000000000 → ¬ i + 6000000003 = q := fun q h => by omega
      simp [e_hoffr, efb1 i x hx, hne], fun i x hx => by
      have hi : i < 1048577 := by have := (List.getElem?_eq_some_iff.1 hx).1; omega
      have e_hoffr := hoffr (i + (6000000003 + (rowsI b.next).length)) (by omega)
      have hne : ∀ q : Nat, q < 5000000000 → ¬ i + (6000000003 + (rowsI b.next).length) = q := fun q h => by omega
      simp [e_hoffr, efb2 i x hx, hne]⟩ (zs := [.d b.d]) ⟨_, _, rfl, trivial, trivial⟩) rfl ?_
    simp
    have hNa : RwNum 7000000000 7000000001 7000000002 7000000003 (7000000003 + (rowsI a.next).length) a.next.length a.out.length := ⟨⟨by omega, .inl (by omega), .inl (by omega)⟩, ⟨by omega, .inl (by omega), .inl (by omega), by omega⟩, ⟨by omega, .inl (by omega), .inl (by omega), by omega, by omega⟩, ⟨by omega, by omega⟩, .inl (by omega)⟩
    have hNb : RwNum 6000000000 6000000001 6000000002 6000000003 (6000000003 + (rowsI b.next).length) b.next.length b.out.length := ⟨⟨by omega, .inl (by omega), .inl (by omega)⟩, ⟨by omega, .inl (by omega), .inl (by omega), by omega⟩, ⟨by omega, .inl (by omega), .inl (by omega), by omega, by omega⟩, ⟨by omega, by omega⟩, .inl (by omega)⟩
    have hNr : RwNum 5000000000 5000000001 5000000002 5000000003 (5000000003 + (rowsI R.next).length) R.next.length R.out.length := ⟨⟨by omega, .inl (by omega), .inl (by omega)⟩, ⟨by omega, .inl (by omega), .inl (by omega), by omega⟩, ⟨by omega, .inl (by omega), .inl (by omega), by omega, by omega⟩, ⟨by omega, by omega⟩, .inl (by omega)⟩
    refine .lendRw (a := a) (k := 1) (by omega) n1 n2 (by omega) hNa (O1 := 7000000000) (O2 := 7000000001) (F := 7000000002) (b1 := 7000000003) (b2 := (7000000003 + (rowsI a.next).length)) (r1 := 0) (r2 := 0) ⟨by simp [hoffr 7000000000 (by omega), hoffr 7000000001 (by omega), hoffr 7000000002 (by omega), hoffb 7000000000 (by omega), hoffb 7000000001 (by omega), hoffb 7000000002 (by omega)], by simp [hoffr 7000000000 (by omega), hoffr 7000000001 (by omega), hoffr 7000000002 (by omega), hoffb 7000000000 (by omega), hoffb 7000000001 (by omega), hoffb 7000000002 (by omega)], by simp [hoffr 7000000000 (by omega), hoffr 7000000001 (by omega), hoffr 7000000002 (by omega), hoffb 7000000000 (by omega), hoffb 7000000001 (by omega), hoffb 7000000002 (by omega)], fun i x hx => by
      have hi : i < 1048577 := by have := (List.getElem?_eq_some_iff.1 hx).1; omega
      have e_hoffr := hoffr (i + 7000000003) (by omega)
      have e_hoffb := hoffb (i + 7000000003) (by omega)
      have hne : ∀ q : Nat, q < 5000000000 → ¬ i + 7000000003 = q := fun q h => by omega
      simp [e_hoffr, e_hoffb, efa1 i x hx, hne], fun i x hx => by
      have hi : i < 1048577 := by have := (List.getElem?_eq_some_iff.1 hx).1; omega
      have e_hoffr := hoffr (i + (7000000003 + (rowsI a.next).length)) (by omega)
      have e_hoffb := hoffb (i + (7000000003 + (rowsI a.next).length)) (by omega)
      have hne : ∀ q : Nat, q < 5000000000 → ¬ i + (7000000003 + (rowsI a.next).length) = q := fun q h => by omega
      simp [e_hoffr, e_hoffb, efa2 i x hx, hne]⟩ ?_
    have soA : ∀ (j : Nat), j < 7000000000 → ∀ hp : HP, (setRw hp 7000000000 7000000001 7000000002 7000000003 (7000000003 + (rowsI a.next).length) a 1 0 0).heap j = hp.heap j := fun j hj hp => setRw_off ⟨by omega, by omega, by omega, .inl (by omega), .inl (by omega)⟩
    have hka : 1 + a.tot ≤ 2199024304129 ∧ 1 ≤ 1 + a.tot := by omega
    generalize 1 + a.tot = ka at *
    simp [soA]
    refine .lendRw (a := b) (k := ka) (by omega) n4 n5 (by omega) hNb (O1 := 6000000000) (O2 := 6000000001) (F := 6000000002) (b1 := 6000000003) (b2 := (6000000003 + (rowsI b.next).length)) (r1 := 0) (r2 := 0) ⟨by simp [soA 6000000000 (by omega), soA 6000000001 (by omega), soA 6000000002 (by omega), hoffr 6000000000 (by omega), hoffr 6000000001 (by omega), hoffr 6000000002 (by omega)], by simp [soA 6000000000 (by omega), soA 6000000001 (by omega), soA 6000000002 (by omega), hoffr 6000000000 (by omega), hoffr 6000000001 (by omega), hoffr 6000000002 (by omega)], by simp [soA 6000000000 (by omega), soA 6000000001 (by omega), soA 6000000002 (by omega), hoffr 6000000000 (by omega), hoffr 6000000001 (by omega), hoffr 6000000002 (by omega)], fun i x hx => by
      have hi : i < 1048577 := by have := (List.getElem?_eq_some_iff.1 hx).1; omega
      have e_soA := soA (i + 6000000003) (by omega)
      have e_hoffr := hoffr (i + 6000000003) (by omega)
      have hne : ∀ q : Nat, q < 5000000000 → ¬ i + 6000000003 = q := fun q h => by omega
      simp [e_soA, e_hoffr, efb1 i x hx, hne], fun i x hx => by
      have hi : i < 1048577 := by have := (List.getElem?_eq_some_iff.1 hx).1; omega
      have e_soA := soA (i + (6000000003 + (rowsI b.next).length)) (by omega)
      have e_hoffr := hoffr (i + (6000000003 + (rowsI b.next).length)) (by omega)
      have hne : ∀ q : Nat, q < 5000000000 → ¬ i + (6000000003 + (rowsI b.next).length) = q := fun q h => by omega
      simp [e_soA, e_hoffr, efb2 i x hx, hne]⟩ ?_
    have soB : ∀ (j : Nat), j < 6000000000 → ∀ hp : HP, (setRw hp 6000000000 6000000001 6000000002 6000000003 (6000000003 + (rowsI b.next).length) b ka 0 0).heap j = hp.heap j := fun j hj hp => setRw_off ⟨by omega, by omega, by omega, .inl (by omega), .inl (by omega)⟩
    have hkb : 1 ≤ ka + b.tot := by omega
    generalize ka + b.tot = kb at *
    simp [show ¬ (kb : Int) < 0 by omega, soB, soA]
    refine .flatV (c_eqRewriter R R hys) rfl (RwAt.view (O1 := 5000000000) (O2 := 5000000001) (F := 5000000002) (b1 := 5000000003) (b2 := (5000000003 + (rowsI R.next).length)) (r1 := m) (r2 := m2) ⟨by simp [soB 5000000000 (by omega), soB 5000000001 (by omega), soB 5000000002 (by omega), soA 5000000000 (by omega), soA 5000000001 (by omega), soA 5000000002 (by omega)], by simp [soB 5000000000 (by omega), soB 5000000001 (by omega), soB 5000000002 (by omega), soA 5000000000 (by omega), soA 5000000001 (by omega), soA 5000000002 (by omega)], by simp [soB 5000000000 (by omega), soB 5000000001 (by omega), soB 5000000002 (by omega), soA 5000000000 (by omega), soA 5000000001 (by omega), soA 5000000002 (by omega)], fun i x hx => by
      have hi : i < 1048577 := by have := (List.getElem?_eq_some_iff.1 hx).1; omega
      have e_soB := soB (i + 5000000003) (by omega)
      have e_soA := soA (i + 5000000003) (by omega)
      have hne : ∀ q : Nat, q < 5000000000 → ¬ i + 5000000003 = q := fun q h => by omega
      simp [e_soB, e_soA, efr1 i x hx, hne], fun i x hx => by
      have hi : i < 1048577 := by have := (List.getElem?_eq_some_iff.1 hx).1; omega
      have e_soB := soB (i + (5000000003 + (rowsI R.next).length)) (by omega)
      have e_soA := soA (i + (5000000003 + (rowsI R.next).length)) (by omega)
      have hne : ∀ q : Nat, q < 5000000000 → ¬ i + (5000000003 + (rowsI R.next).length) = q := fun q h => by omega
      simp [e_soB, e_soA, efr2 i x hx, hne]⟩ (zs := [.d R.d]) ⟨_, _, rfl, trivial, trivial⟩) (by simp) rfl rfl ?_
    simp [soB, soA]
    refine .lendRw (a := R) (k := 1) (by omega) (by omega) (by omega) (by omega) hNr (O1 := 5000000000) (O2 := 5000000001) (F := 5000000002) (b1 := 5000000003) (b2 := (5000000003 + (rowsI R.next).length)) (r1 := m) (r2 := m2) ⟨by simp [soB 5000000000 (by omega), soB 5000000001 (by omega), soB 5000000002 (by omega), soA 5000000000 (by omega), soA 5000000001 (by omega), soA 5000000002 (by omega)], by simp [soB 5000000000 (by omega), soB 5000000001 (by omega), soB 5000000002 (by omega), soA 5000000000 (by omega), soA 5000000001 (by omega), soA 5000000002 (by omega)], by simp [soB 5000000000 (by omega), soB 5000000001 (by omega), soB 5000000002 (by omega), soA 5000000000 (by omega), soA 5000000001 (by omega), soA 5000000002 (by omega)], fun i x hx => by
      have hi : i < 1048577 := by have := (List.getElem?_eq_some_iff.1 hx).1; omega
      have e_soB := soB (i + 5000000003) (by omega)
      have e_soA := soA (i + 5000000003) (by omega)
      have hne : ∀ q : Nat, q < 5000000000 → ¬ i + 5000000003 = q := fun q h => by omega
      simp [e_soB, e_soA, efr1 i x hx, hne], fun i x hx => by
      have hi : i < 1048577 := by have := (List.getElem?_eq_some_iff.1 hx).1; omega
      have e_soB := soB (i + (5000000003 + (rowsI R.next).length)) (by omega)
      have e_soA := soA (i + (5000000003 + (rowsI R.next).length)) (by omega)
      have hne : ∀ q : Nat, q < 5000000000 → ¬ i + (5000000003 + (rowsI R.next).length) = q := fun q h => by omega
      simp [e_soB, e_soA, efr2 i x hx, hne]⟩ ?_
    have soR : ∀ (j : Nat), j < 5000000000 → ∀ hp : HP, (setRw hp 5000000000 5000000001 5000000002 5000000003 (5000000003 + (rowsI R.next).length) R 1 m m2).heap j = hp.heap j := fun j hj hp => setRw_off ⟨by omega, by omega, by omega, .inl (by omega), .inl (by omega)⟩
    have hheld := h_heldRewriter R 1 (by omega) (by omega) (by omega) (by omega)
    have hky : 1 ≤ 1 + R.tot := by omega
    generalize 1 + R.tot = ky at *
    have hnn : ¬ (ky : Int) < 0 := by omega
    simp [soR, soB, soA]
    refine .dvalV hheld (RwAt.viewM (O1 := 5000000000) (O2 := 5000000001) (F := 5000000002) (b1 := 5000000003) (b2 := (5000000003 + (rowsI R.next).length)) (r1 := m) (r2 := m2) ⟨by simp; exact (setRw_at hNr).o1, by simp; exact (setRw_at hNr).o2, by simp; exact (setRw_at hNr).f, fun i x hx => by simp; exact (setRw_at hNr).f1 i x hx, fun i x hx => by simp; exact (setRw_at hNr).f2 i x hx⟩ (zs := [iA (1 : Nat)]) ⟨_, _, rfl, trivial, trivial⟩) rfl ?_
    simp [soR, soB, soA, hnn]
    have mr1 := markRw_next R 1
    have mr2 := markRw_out R 1
    have hou : ∀ j, ((5000000003 ≤ j ∧ j < 5000000003 + R.next.length) ∨ ((5000000003 + (rowsI R.next).length) ≤ j ∧ j < (5000000003 + (rowsI R.next).length) + R.out.length)) → outU (600 :: 1000 :: 1500 :: 5000000000 :: 5000000001 :: 5000000002 :: (famU 5000000003 R.next.length ++ famU (5000000003 + (rowsI R.next).length) R.out.length)) j = false := fun j hj => by
      simp only [outU, Bool.not_eq_false', Bool.or_eq_true, List.contains_iff_mem, List.mem_cons, List.mem_append, famU_mem]
      exact .inr (.inr (.inr (.inr (.inr (.inr (.inr hj))))))
    refine .cutAt Unit (fun _ => [(6, .ptr 600 0), (7, .d (.bool true)), (10, .ptr 1000 0), (13, iA ky), (15, .ptr 1500 0), (16, .d (.bool true))]) (fun _ => (600, .bx [.d (.list (R.next.map intsD)), .d (.list (R.out.map ssD)), .d (ssD R.fin)]) :: (1000, .bx [.sl 1 5000000000 0 R.next.length, .sl 1 5000000001 0 R.out.length, .sl 1 5000000002 0 R.fin.length]) :: (1500, .bx [.d (.list (R.next.map intsD)), .d (.list (R.out.map ssD)), .d (ssD R.fin)]) :: (5000000000, .bx (outY 5000000003 (rowsI (markRw R 1).next) m)) :: (5000000001, .bx (outY (5000000003 + (rowsI R.next).length) (rowsS (markRw R 1).out) m2)) :: (5000000002, .ar 1 ((markRw R 1).fin.map sD)) :: (famH 5000000003 (rowsI (markRw R 1).next) ++ famH (5000000003 + (rowsI R.next).length) (rowsS (markRw R 1).out))) (600 :: 1000 :: 1500 :: 5000000000 :: 5000000001 :: 5000000002 :: (famU 5000000003 R.next.length ++ famU (5000000003 + (rowsI R.next).length) R.out.length)) (schA [.pur 0, .pur 2] (.alt 1 [2] (schA [] (.alt 3 [] (schA [] (.alt 4 [] (sch [.pur 5, .pur 6, .pur 7, .eff 8 [0, 2, 5, 6, 7], .eff 9 [7], .pur 10]) 8 [0, 2] (sch [.eff 4 [], .pur 5, .pur 6, .pur 7, .eff 9 [7], .pur 10]))) 8 [0, 2] (sch [.eff 3 [], .eff 4 [], .pur 5, .pur 6, .pur 7, .eff 9 [7], .pur 10]))) 8 [0, 2] (sch [.eff 1 [2], .eff 3 [], .eff 4 [], .pur 5, .pur 6, .pur 7, .eff 9 [7], .pur 10]))) (by kernel_rfl) ?_ ?_
    · simp
      repeat' apply And.intro
      all_goals try rfl
      all_goals
        refine .ddat (c_toRewriter a has) rfl (by simp [Rw.d]) ?_
        rintro _ rfl
        simp
        repeat' apply And.intro
        all_goals try rfl
        all_goals
          refine .ddat (c_toRewriter b hbs) rfl (by simp [Rw.d]) ?_
          rintro _ rfl
          simp [Rw.d]
          repeat' apply And.intro
          all_goals try rfl
          all_goals
            refine .tdat (c_ChainRewriters a b ha hb) rfl (by simp [Rw.d]) ?_
            rintro _ ⟨R', ok', rfl, hR'⟩
            obtain ⟨rfl, rfl⟩ := hy.uniq hR'
            simp [Rw.d, soR, soB, soA]
            repeat' apply And.intro
            · exact (setRw_at hNr).o1
            · refine outY_kp fun i hi => ?_
              rw [mr1] at hi
              exact hou _ (.inl ⟨by omega, by omega⟩)
            · exact (setRw_at hNr).o2
            · refine outY_kp fun i hi => ?_
              rw [mr2] at hi
              exact hou _ (.inr ⟨by omega, by omega⟩)
            · exact (setRw_at hNr).f
            · rw [heapLe_app]
              refine ⟨heapLe_famI (fun i x hx => ?_) (fun j h1 h2 => ?_), heapLe_famI (fun i x hx => ?_) (fun j h1 h2 => ?_)⟩
              · have hne : ∀ q : Nat, q < 5000000000 → ¬ i + 5000000003 = q := fun q h => by omega
                simp [hne]
                exact (setRw_at hNr).f1 i x hx
              · rw [mr1] at h2
                exact .inr (hou j (.inl ⟨h1, h2⟩))
              · have hne : ∀ q : Nat, q < 5000000000 → ¬ i + (5000000003 + (rowsI R.next).length) = q := fun q h => by omega
                simp [hne]
                exact (setRw_at hNr).f2 i x hx
              · rw [mr2] at h2
                exact .inr (hou j (.inr ⟨h1, h2⟩))
    rintro ⟨⟩
    simp
    refine .dval (c_eqRewriter R R hys) rfl (by simp) rfl ?_
    simp
    refine .dvalV hheld (RwAt.viewM (O1 := 5000000000) (O2 := 5000000001) (F := 5000000002) (b1 := 5000000003) (b2 := (5000000003 + (rowsI R.next).length)) (r1 := m) (r2 := m2) ⟨by simp, by simp, by simp, fun i x hx => by
      have hne : ∀ q : Nat, q < 5000000003 → ¬ i + 5000000003 = q := fun q h => by omega
      simp [hne, famH_app_at hx], fun i x hx => by
      have hne : ∀ q : Nat, q < 5000000003 → ¬ i + (5000000003 + (rowsI R.next).length) = q := fun q h => by omega
      have e : lookH (famH 5000000003 (rowsI (markRw R 1).next)) (i + (5000000003 + (rowsI R.next).length)) = none := by
        rw [famH_look, if_pos (by omega), List.getElem?_eq_none (by omega)]; rfl
      simp [hne, lookH_app, e, famH_ati hx]⟩ (zs := [iA (1 : Nat)]) ⟨_, _, rfl, trivial, trivial⟩) rfl ?_
    simp [hnn]
  · obtain ⟨rfl, rfl⟩ := hy.uniq hw
    refine ⟨⟨by simp, by simp, fun j hj => by simp at hj, rfl, rfl⟩, ?_⟩
    simp [newL, newBs, AV.kp, AV.kpL, AV.ren, AV.renL]
    refine .dval (c_eqRewriter zeroRw zeroRw zeroRw_small) rfl (by simp) rfl ?_
    simp
    refine .one (sch [.pur 0, .pur 1, .eff 2 [0], .eff 3 [], .pur 4]) (by kernel_rfl) ?_
    simp
    refine .ddat (c_toRewriter a has) rfl (by simp [Rw.d]) ?_
    rintro _ rfl
    simp
    refine .dvalV (c_eqRewriter a a has) (RwAt.view (O1 := 7000000000) (O2 := 7000000001) (F := 7000000002) (b1 := 7000000003) (b2 := (7000000003 + (rowsI a.next).length)) (r1 := 0) (r2 := 0) ⟨by simp [hoffb 7000000000 (by omega), hoffb 7000000001 (by omega), hoffb 7000000002 (by omega)], by simp [hoffb 7000000000 (by omega), hoffb 7000000001 (by omega), hoffb 7000000002 (by omega)], by simp [hoffb 7000000000 (by omega), hoffb 7000000001 (by omega), hoffb 7000000002 (by omega)], fun i x hx => by
      have hi : i < 1048577 := by have := (List.getElem?_eq_some_iff.1 hx).1; omega
      have e_hoffb := hoffb (i + 7000000003) (by omega)
      have hne : ∀ q : Nat, q < 5000000000 → ¬ i + 7000000003 = q := fun q h => by omega
      simp [e_hoffb, efa1 i x hx, hne], fun i x hx => by
      have hi : i < 1048577 := by have := (List.getElem?_eq_some_iff.1 hx).1; omega
      have e_hoffb := hoffb (i + (7000000003 + (rowsI a.next).length)) (by omega)
      have hne : ∀ q : Nat, q < 5000000000 → ¬ i + (7000000003 + (rowsI a.next).length) = q := fun q h => by omega
      simp [e_hoffb, efa2 i x hx, hne]⟩ (zs := [.d a.d]) ⟨_, _, rfl, trivial, trivial⟩) rfl ?_
    simp
    refine .one (sch [.pur 0, .pur 1, .eff 2 [0], .eff 3 [], .pur 4]) (by kernel_rfl) ?_
    simp
    refine .ddat (c_toRewriter b hbs) rfl (by simp [Rw.d]) ?_
    rintro _ rfl
    simp
    refine .dvalV (c_eqRewriter b b hbs) (RwAt.view (O1 := 6000000000) (O2 := 6000000001) (F := 6000000002) (b1 := 6000000003) (b2 := (6000000003 + (rowsI b.next).length)) (r1 := 0) (r2 := 0) ⟨by simp, by simp, by simp, fun i x hx => by
      have hi : i < 1048577 := by have := (List.getElem?_eq_some_iff.1 hx).1; omega
      have hne : ∀ q : Nat, q < 5000000000 → ¬ i + 6000000003 = q := fun q h => by omega
      simp [efb1 i x hx, hne], fun i x hx => by
      have hi : i < 1048577 := by have := (List.getElem?_eq_some_iff.1 hx).1; omega
      have hne : ∀ q : Nat, q < 5000000000 → ¬ i + (6000000003 + (rowsI b.next).length) = q := fun q h => by omega
      simp [efb2 i x hx, hne]⟩ (zs := [.d b.d]) ⟨_, _, rfl, trivial, trivial⟩) rfl ?_
    simp
    have hNa : RwNum 7000000000 7000000001 7000000002 7000000003 (7000000003 + (rowsI a.next).length) a.next.length a.out.length := ⟨⟨by omega, .inl (by omega), .inl (by omega)⟩, ⟨by omega, .inl (by omega), .inl (by omega), by omega⟩, ⟨by omega, .inl (by omega), .inl (by omega), by omega, by omega⟩, ⟨by omega, by omega⟩, .inl (by omega)⟩
    have hNb : RwNum 6000000000 6000000001 6000000002 6000000003 (6000000003 + (rowsI b.next).length) b.next.length b.out.length := ⟨⟨by omega, .inl (by omega), .inl (by omega)⟩, ⟨by omega, .inl (by omega), .inl (by omega), by omega⟩, ⟨by omega, .inl (by omega), .inl (by omega), by omega, by omega⟩, ⟨by omega, by omega⟩, .inl (by omega)⟩
    refine .lendRw (a := a) (k := 1) (by omega) n1 n2 (by omega) hNa (O1 := 7000000000) (O2 := 7000000001) (F := 7000000002) (b1 := 7000000003) (b2 := (7000000003 + (rowsI a.next).length)) (r1 := 0) (r2 := 0) ⟨by simp [hoffb 7000000000 (by omega), hoffb 7000000001 (by omega), hoffb 7000000002 (by omega)], by simp [hoffb 7000000000 (by omega), hoffb 7000000001 (by omega), hoffb 7000000002 (by omega)], by simp [hoffb 7000000000 (by omega), hoffb 7000000001 (by omega), hoffb 7000000002 (by omega)], fun i x hx => by
      have hi : i < 1048577 := by have := (List.getElem?_eq_some_iff.1 hx).1; omega
      have e_hoffb := hoffb (i + 7000000003) (by omega)
      have hne : ∀ q : Nat, q < 5000000000 → ¬ i + 7000000003 = q := fun q h => by omega
      simp [e_hoffb, efa1 i x hx, hne], fun i x hx => by
      have hi : i < 1048577 := by have := (List.getElem?_eq_some_iff.1 hx).1; omega
      have e_hoffb := hoffb (i + (7000000003 + (rowsI a.next).length)) (by omega)
      have hne : ∀ q : Nat, q < 5000000000 → ¬ i + (7000000003 + (rowsI a.next).length) = q := fun q h => by omega
      simp [e_hoffb, efa2 i x hx, hne]⟩ ?_
    have soA : ∀ (j : Nat), j < 7000000000 → ∀ hp : HP, (setRw hp 7000000000 7000000001 7000000002 7000000003 (7000000003 + (rowsI a.next).length) a 1 0 0).heap j = hp.heap j := fun j hj hp => setRw_off ⟨by omega, by omega, by omega, .inl (by omega), .inl (by omega)⟩
    have hka : 1 + a.tot ≤ 2199024304129 ∧ 1 ≤ 1 + a.tot := by omega
    generalize 1 + a.tot = ka at *
    simp [soA]
    refine .lendRw (a := b) (k := ka) (by omega) n4 n5 (by omega) hNb (O1 := 6000000000) (O2 := 6000000001) (F := 6000000002) (b1 := 6000000003) (b2 := (6000000003 + (rowsI b.next).length)) (r1 := 0) (r2 := 0) ⟨by simp [soA 6000000000 (by omega), soA 6000000001 (by omega), soA 6000000002 (by omega)], by simp [soA 6000000000 (by omega), soA 6000000001 (by omega), soA 6000000002 (by omega)], by simp [soA 6000000000 (by omega), soA 6000000001 (by omega), soA 6000000002 (by omega)], fun i x hx => by
      have hi : i < 1048577 := by have := (List.getElem?_eq_some_iff.1 hx).1; omega
      have e_soA := soA (i + 6000000003) (by omega)
      have hne : ∀ q : Nat, q < 5000000000 → ¬ i + 6000000003 = q := fun q h => by omega
      simp [e_soA, efb1 i x hx, hne], fun i x hx => by
      have hi : i < 1048577 := by have := (List.getElem?_eq_some_iff.1 hx).1; omega
      have e_soA := soA (i + (6000000003 + (rowsI b.next).length)) (by omega)
      have hne : ∀ q : Nat, q < 5000000000 → ¬ i + (6000000003 + (rowsI b.next).length) = q := fun q h => by omega
      simp [e_soA, efb2 i x hx, hne]⟩ ?_
    have soB : ∀ (j : Nat), j < 6000000000 → ∀ hp : HP, (setRw hp 6000000000 6000000001 6000000002 6000000003 (6000000003 + (rowsI b.next).length) b ka 0 0).heap j = hp.heap j := fun j hj hp => setRw_off ⟨by omega, by omega, by omega, .inl (by omega), .inl (by omega)⟩
    have hkb : 1 ≤ ka + b.tot := by omega
    generalize ka + b.tot = kb at *
    simp [show ¬ (kb : Int) < 0 by omega, soB, soA]
    refine .flat (fun _ => c_eqRewriter zeroRw zeroRw zeroRw_small) rfl (by simp) rfl rfl ?_
    simp [soB, soA]
    refine .dval (c_markRewriter0 1) rfl (by simp) rfl ?_
    simp [soB, soA]
    refine .dval h_held0 rfl (by simp) rfl ?_
    simp [soB, soA]
    refine .cutAt Unit (fun _ => [(6, .ptr 600 0), (7, .d (.bool false)), (10, .ptr 1000 0), (13, iA 1), (15, .ptr 1500 0), (16, .d (.bool false))]) (fun _ => [(600, .bx [.d (.list (zeroRw.next.map intsD)), .d (.list (zeroRw.out.map ssD)), .d (ssD zeroRw.fin)]), (1000, .bx [.nl, .nl, .nl]), (1500, .bx [.d (.list (zeroRw.next.map intsD)), .d (.list (zeroRw.out.map ssD)), .d (ssD zeroRw.fin)])]) [600, 1000, 1500] (schA [.pur 0, .pur 2] (.alt 1 [2] (schA [] (.alt 3 [] (schA [] (.alt 4 [] (sch [.pur 5, .pur 6, .pur 7, .eff 8 [0, 2, 5, 6, 7], .eff 9 [7], .pur 10]) 8 [0, 2] (sch [.eff 4 [], .pur 5, .pur 6, .pur 7, .eff 9 [7], .pur 10]))) 8 [0, 2] (sch [.eff 3 [], .eff 4 [], .pur 5, .pur 6, .pur 7, .eff 9 [7], .pur 10]))) 8 [0, 2] (sch [.eff 1 [2], .eff 3 [], .eff 4 [], .pur 5, .pur 6, .pur 7, .eff 9 [7], .pur 10]))) (by kernel_rfl) ?_ ?_
    · simp
      repeat' apply And.intro
      all_goals try rfl
      all_goals
        refine .ddat (c_toRewriter a has) rfl (by simp [Rw.d]) ?_
        rintro _ rfl
        simp
        repeat' apply And.intro
        all_goals try rfl
        all_goals
          refine .ddat (c_toRewriter b hbs) rfl (by simp [Rw.d]) ?_
          rintro _ rfl
          simp [Rw.d]
          repeat' apply And.intro
          all_goals try rfl
          all_goals
            refine .tdat (c_ChainRewriters a b ha hb) rfl (by simp [Rw.d]) ?_
            rintro _ ⟨R', ok', rfl, hR'⟩
            obtain ⟨rfl, rfl⟩ := hy.uniq hR'
            simp [Rw.d, soB, soA]
    rintro ⟨⟩
    simp
    refine .dval (c_eqRewriter zeroRw zeroRw zeroRw_small) rfl (by simp) rfl ?_
    simp
    refine .dval h_held0 rfl (by simp) rfl ?_
    simp
end Go.Fw
