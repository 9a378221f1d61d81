/- The cheapest word: the reference. -/
import Derived.Test.YtfldfcibjkhpnaaMr
import Derived.Test.YtfldfcibjkhpnaaLi
set_option linter.unusedSimpArgs false
set_option linter.unusedVariables false
namespace Go.Fw
open Go Go.Proofs
set_option linter.unnecessarySimpa false

theorem stepD_len (ws : List (List UInt8)) (cs : List Int) (x : WC) (m : Rd) : (stepD ws cs x m).w.length = x.w.length ∧ (stepD ws cs x m).c.length = x.c.length := by
  unfold stepD; split <;> simp
theorem stepD_bd {ws : List (List UInt8)} {cs : List Int} {x : WC} {m : Rd} {B : Int} (ha : Bd cs (-1) B) (hx : Bd x.c (-1) (B + 99)) (hf : m.f.toNat < cs.length) (hc : 0 ≤ m.c ∧ m.c ≤ 99) : Bd (stepD ws cs x m).c (-1) (B + 99) := by
  unfold stepD; split
  · rename_i h
    have := ha.getD hf 0
    exact hx.set _ (by omega) (by omega)
  · exact hx
theorem foldD_bd {ws : List (List UInt8)} {cs : List Int} {B : Int} (ha : Bd cs (-1) B) : ∀ (rs : List Rd), (∀ m ∈ rs, m.f.toNat < cs.length ∧ 0 ≤ m.c ∧ m.c ≤ 99) → ∀ {x : WC}, Bd x.c (-1) (B + 99) → Bd (rs.foldl (stepD ws cs) x).c (-1) (B + 99)
  | [], _, _, hx => hx
  | m :: r, hr, x, hx => by
    rw [List.foldl_cons]
    exact foldD_bd ha r (fun q hq => hr q (by simp [hq])) (stepD_bd ha hx (hr m (by simp)).1 (hr m (by simp)).2)

theorem stepD_eq (ws : List (List UInt8)) (cs : List Int) (x : WC) (m : Rd) : stepD ws cs x m = if 0 ≤ cs.getD m.f.toNat 0 ∧ (x.c.getD m.t.toNat 0 < 0 ∨ cs.getD m.f.toNat 0 + m.c < x.c.getD m.t.toNat 0 ∨ (cs.getD m.f.toNat 0 + m.c = x.c.getD m.t.toNat 0 ∧ Op.bytesLess (ws.getD m.f.toNat [] ++ ltxt m.l) (x.w.getD m.t.toNat []) = true)) then
    ⟨x.w.set m.t.toNat (ws.getD m.f.toNat [] ++ ltxt m.l), x.c.set m.t.toNat (cs.getD m.f.toNat 0 + m.c)⟩ else x := rfl
theorem ltxt_conv {l : Int} (h : 0 ≤ l ∧ l ≤ 2) : ∃ lb, ltxt l = [lb] ∧ UInt8.ofNat (IntKind.u8.wrap (IntKind.i64.wrap (97 + l))).toNat = lb := by
  refine ⟨_, rfl, ?_⟩
  obtain ⟨h1, h2⟩ := h
  obtain rfl | rfl | rfl : l = 0 ∨ l = 1 ∨ l = 2 := by omega
  all_goals decide
structure CS where
  k : Nat
  y : WC
  b : List UInt8
  c : Int
structure CSok (N : Nat) (rs : List Rd) (l : Nat) (x : CS) : Prop where
  kl : x.k ≤ l
  dp : DP N rs x.k x.y
  ch : Chp N rs (fun w => w.all isL = true ∧ w.length < x.k) x.b x.c
  bd : Bd x.y.c (-1) (99 * x.k)

set_option maxRecDepth 100000 in
theorem c_sCheapestWord (n : Int) (rs : List Rd) (L : Int) (hr0 : rs.length ≤ 9223372036854775807) : TCalls Try.prog 33 [.d (roadsD n rs), iA L] (CheapIs n rs L) := by
  refine tcalls_intro Ty.mixed Try.func33 rfl rfl rfl [2] (by kernel_rfl) (by simp) ?_
  simp [roadsD, rsD]
  refine .dval (c_sRoadsValid n rs hr0) rfl (by simp) rfl ?_
  simp
  refine .flat (fun _ => c_l1In L 0 8) rfl (by simp) rfl (by simp) ?_
  simp
  refine ⟨fun hno => .inl ⟨?_, rfl⟩, fun hv hL => ?_⟩
  · rintro ⟨h1, h2⟩
    rcases hno with h | h
    · rw [h1] at h; cases h
    · simp [inR] at h; omega
  have hL' : 0 ≤ L ∧ L ≤ 8 := by simpa [inR] using hL
  obtain ⟨l, rfl⟩ : ∃ l : Nat, L = l := ⟨L.toNat, by omega⟩
  obtain ⟨N, rfl⟩ : ∃ N : Nat, n = N := by have := (okRoads_of hv).1; exact ⟨n.toNat, by omega⟩
  obtain ⟨hn1, hn2, hr60, hrs⟩ := okRoads_of hv
  have hN : 1 ≤ N := by omega
  have hrd := rdOk_of hv
  refine LoopVC.at { k : Nat // k ≤ N } (fun k => [(1, iA l), (2, .dp [iA N, .d (rsD rs)]), (7, sA []), (8, iA (-1)), (9, .sl 1 2900 0 k.1), (10, .sl 1 3000 0 k.1), (11, iA k.1)]) (fun k => [(2900, .ar 1 ((List.replicate k.1 []).map sD)), (3000, .ar 1 ((List.replicate k.1 (-1)).map iD))]) [2900, 3000] (fun k => N - k.1) ⟨0, by simp⟩ (by simp [rsD]) (by simp) ?_
  rintro ⟨k, hk⟩
  rcases Nat.lt_or_ge k N with hkN | hkN
  · simp [hkN]
    refine ⟨⟨by omega, by omega⟩, ⟨by omega, by omega⟩, k + 1, .mk (by simp [rsD]; exact wrap64 (by omega) (by omega)) (by simp [List.replicate_succ']), hkN, by omega⟩
  have hkN' : k = N := by omega
  subst hkN'
  simp [show 0 < k by omega]
  refine LoopVC.wk (Wk.frz 9 rfl (by simp)) ?_
  refine LoopVC.wk (Wk.frz 10 rfl (by simp)) ?_
  have hbd0 : Bd (initC k) (-1) 0 := (Bd.repl k (v := -1) (by omega) (by omega)).set 0 (by omega) (by omega)
  refine LoopVC.at { x : CS // CSok k rs l x } (fun x => [(1, iA l), (2, .dp [iA k, .d (rsD rs)]), (7, sA x.1.b), (8, iA x.1.c), (9, .d (ssD x.1.y.w)), (10, .d (isD x.1.y.c)), (12, iA x.1.k)]) (fun _ => []) [] (fun x => l - x.1.k) ⟨⟨0, ⟨List.replicate k [], initC k⟩, [], -1⟩, ⟨Nat.zero_le _, DP.init k rs, .inl ⟨rfl, rfl, fun w hw => absurd hw.2 (Nat.not_lt_zero _)⟩, by simpa using hbd0⟩⟩ (by
    simp [rsD, initC]
    rw [List.take_of_length_le (by simp)]) (by simp) ?_
  rintro ⟨⟨t, y, b, c⟩, ht, hdp, hch, hbd⟩
  simp only at ht hdp hch hbd
  have hwl := hdp.wl
  have hcl := hdp.cl
  have hbN := hbd.getD (i := k - 1) (by omega) 0
  have hdc := hdp.chp hN hbN.1
  have hadd := (hch.add hdc (fun s u hs hu => by
    have := (num_lt hs.1 (n := t)).2 hs.2
    have h2 := wv_bd hu.1
    unfold num at this ⊢
    rw [hu.2]
    omega)).congr (T := fun w => w.all isL = true ∧ w.length < t + 1) (fun w => by
      constructor
      · rintro (h | h)
        · exact ⟨h.1, by have := h.2; omega⟩
        · exact ⟨h.1, by have := h.2; omega⟩
      · rintro ⟨h1, h2⟩
        by_cases e : w.length < t
        · exact .inl ⟨h1, e⟩
        · exact .inr ⟨h1, by omega⟩)
  have c1 := getD_row (xs := y.c) (i := k - 1) 0 (by omega)
  have c2 := getD_row (xs := y.w) (i := k - 1) [] (by omega)
  have hk1 : ((k : Int) - 1).toNat = k - 1 := by omega
  have hk2 : IntKind.i64.wrap ((k : Int) - 1) = (k : Int) - 1 := wrap64 (by omega) (by omega)
  generalize y.c.getD (k - 1) 0 = vc at *
  generalize y.w.getD (k - 1) [] = vw at *
  simp [rsD, hk1, hk2, hcl, hwl, c1, c2, show k - 1 < k by omega, hN]
  refine ⟨by omega, fun h1 h2 => ⟨⟨h1, h2⟩, by omega⟩, fun h1 => ⟨h1, fun h2 => ⟨h1, h2⟩⟩, fun h1 h2 => ⟨by omega, fun e => ?e1, fun hne => ⟨by omega, ?t1⟩⟩, fun hno => ⟨fun e => ?e2, fun hne => ⟨by omega, ?t2⟩⟩⟩
  case e1 =>
    have hif : 0 ≤ vc ∧ (c < 0 ∨ vc < c) := ⟨h1, by omega⟩
    rw [if_pos hif, if_pos hif.1, if_pos hif] at hadd
    have : t = l := by omega
    subst this
    exact .inr ⟨⟨hv, hL'⟩, vw, vc, hadd, rfl⟩
  case e2 =>
    have hif : ¬ (0 ≤ vc ∧ (c < 0 ∨ vc < c)) := by omega
    rw [if_neg hif, if_neg hif] at hadd
    have : t = l := by omega
    subst this
    exact .inr ⟨⟨hv, hL'⟩, b, c, hadd, rfl⟩
  case' t1 =>
    have hif : 0 ≤ vc ∧ (c < 0 ∨ vc < c) := ⟨h1, by omega⟩
    rw [if_pos hif, if_pos hif.1, if_pos hif] at hadd
    obtain ⟨b', hb'⟩ : ∃ x, x = vw := ⟨_, rfl⟩
    obtain ⟨c', hc'⟩ : ∃ x, x = vc := ⟨_, rfl⟩
    rw [← hb', ← hc'] at hadd
  case' t2 =>
    have hif : ¬ (0 ≤ vc ∧ (c < 0 ∨ vc < c)) := by omega
    rw [if_neg hif, if_neg hif] at hadd
    obtain ⟨b', hb'⟩ : ∃ x, x = b := ⟨_, rfl⟩
    obtain ⟨c', hc'⟩ : ∃ x, x = c := ⟨_, rfl⟩
    rw [← hb', ← hc'] at hadd
  all_goals
    refine LoopVC.at { q : Nat // q ≤ k } (fun q => [(1, iA l), (2, .dp [iA k, .d (rsD rs)]), (7, sA b'), (8, iA c'), (9, .d (ssD y.w)), (10, .d (isD y.c)), (12, iA t), (14, .sl 1 8400 0 k), (15, .sl 1 8500 0 q.1), (16, iA q.1)]) (fun q => [(8400, .ar 1 ((List.replicate k []).map sD)), (8500, .ar 1 ((List.replicate q.1 (-1)).map iD))]) [8400, 8500] (fun q => k - q.1) ⟨0, by simp⟩ (by simp [rsD, hb', hc']) (by simp) ?_
    rintro ⟨q, hq⟩
    rcases Nat.lt_or_ge q k with hqk | hqk
    · simp [hqk]
      refine ⟨⟨by omega, by omega⟩, q + 1, .mk (by simp [rsD]; exact wrap64 (by omega) (by omega)) (by simp [List.replicate_succ']), hqk, by omega⟩
    have hqk' : q = k := by omega
    subst hqk'
    simp
    refine LoopVC.at { j : Nat // j ≤ rs.length } (fun j => [(1, iA l), (2, .dp [iA q, .d (rsD rs)]), (7, sA b'), (8, iA c'), (9, .d (ssD y.w)), (10, .d (isD y.c)), (12, iA t), (14, .sl 1 8400 0 q), (15, .sl 1 8500 0 q), (17, iA j.1)])
      (fun j => [(8400, .ar 1 (((rs.take j.1).foldl (stepD y.w y.c) (initD q)).w.map sD)), (8500, .ar 1 (((rs.take j.1).foldl (stepD y.w y.c) (initD q)).c.map iD))]) [8400, 8500] (fun j => rs.length - j.1) ⟨0, by simp⟩ (by simp [rsD]) (by simp [initD]) ?_
    rintro ⟨j, hj⟩
    have hpd := PD.all hdp (rs.take j) (fun m hm => hrd m (List.mem_of_mem_take hm))
    have hxb := foldD_bd (ws := y.w) hbd (rs.take j) (fun m hm => by have := hrs m (List.mem_of_mem_take hm); omega) (x := initD q) (Bd.repl q (v := -1) (by omega) (by omega))
    have hxw := hpd.wl
    have hxc := hpd.cl
    rcases Nat.lt_or_ge j rs.length with hj' | hj'
    · have hm := hrs rs[j] (List.getElem_mem hj')
      have hsucc : (rs.take (j + 1)).foldl (stepD y.w y.c) (initD q) = stepD y.w y.c ((rs.take j).foldl (stepD y.w y.c) (initD q)) rs[j] := foldl_take _ _ hj'
      have hwd := hdp.is rs[j].f.toNat (by omega)
      generalize (rs.take j).foldl (stepD y.w y.c) (initD q) = x at *
      have g1 := hbd.getD (i := rs[j].f.toNat) (by omega) 0
      have g2 := hxb.getD (i := rs[j].t.toNat) (by omega) 0
      have a1 := getD_row (xs := y.c) (i := rs[j].f.toNat) 0 (by omega)
      have a2 := getD_row (xs := y.w) (i := rs[j].f.toNat) [] (by omega)
      have a3 := getD_row (xs := x.c) (i := rs[j].t.toNat) 0 (by omega)
      have a4 := getD_row (xs := x.w) (i := rs[j].t.toNat) [] (by omega)
      have hst := stepD_eq y.w y.c x rs[j]
      obtain ⟨lb, hlb1, hlb2⟩ := ltxt_conv hm.2.2.1
      rw [hlb1] at hst
      generalize y.c.getD rs[j].f.toNat 0 = va at *
      generalize y.w.getD rs[j].f.toNat [] = wa at *
      generalize x.c.getD rs[j].t.toNat 0 = vn at *
      generalize x.w.getD rs[j].t.toNat [] = wn at *
      rcases Int.lt_or_le va 0 with hva | hva
      · rw [hst, if_neg (by omega)] at hsucc
        simp [hj', Rd.d, rsD, hm, hcl, hwl, a1, a2, hva]
        refine ⟨j + 1, .mk (by simp [rsD]; exact wrap64 (by omega) (by omega)) (by simp [hsucc]), hj', by omega⟩
      · obtain ⟨⟨u1, u2⟩, u3⟩ := hwd hva
        have hcv : IntKind.i64.wrap (va + rs[j].c) = va + rs[j].c := wrap64 (by omega) (by omega)
        simp [hj', Rd.d, rsD, hm, hcl, hwl, a1, a2, hva, show ¬ va < 0 by omega]
        refine .one (sch [.pur 0, .pur 1, .pur 2, .pur 3, .pur 4, .pur 5, .pur 6, .pur 7, .pur 8, .eff 9 [0, 1, 2, 3, 4], .pur 10, .pur 11, .pur 12]) (by kernel_rfl) ?_
        simp [hj', Rd.d, rsD, hm, hcl, hwl, a1, a2]
        refine ⟨by omega, ?_⟩
        refine .one (sch [.pur 0, .pur 1, .pur 2, .pur 3, .pur 4, .pur 5, .pur 6, .pur 7, .pur 8]) (by kernel_rfl) ?_
        simp [hj', Rd.d, rsD, hm, hcl, hwl, hxw, hxc, a1, a2, a3, a4, hcv, hlb2, show rs[j].t.toNat < q by omega]
        refine ⟨fun h1 h2 => ⟨⟨h1, h2⟩, fun h3 => ⟨⟨h1, h2⟩, h3⟩⟩, fun hyes => ?_, fun n1 n2 n3 => ?_⟩
        · rw [hst, if_pos ⟨hva, or_assoc.1 hyes⟩] at hsucc
          refine ⟨j + 1, .mk (by simp [rsD]; exact wrap64 (by omega) (by omega)) (by simp [hsucc]), hj', by omega⟩
        · rw [hst, if_neg (fun h => by
            rcases h.2 with h | h | h
            · omega
            · omega
            · have := n3 h.1
              rw [h.2] at this
              cases this)] at hsucc
          refine ⟨j + 1, .mk (by simp [rsD]; exact wrap64 (by omega) (by omega)) (by simp [hsucc]), hj', by omega⟩
    · simp [Nat.not_lt.2 hj', rsD]
      have hj2 : rs.take j = rs := List.take_of_length_le (by omega)
      refine ⟨⟨t + 1, nextD q rs y.w y.c, b', c'⟩, (Wk.frz 9 rfl (by simp [hxw])).trans ((Wk.frz 10 rfl (by simp [hxc])).trans (.mk (by
        simp [rsD]
        rw [hj2] at hxw hxc ⊢
        rw [List.take_of_length_le (by rw [List.length_map]; exact Nat.le_of_eq hxw), List.take_of_length_le (by rw [List.length_map]; exact Nat.le_of_eq hxc)]
        exact ⟨rfl, rfl, wrap64 (by omega) (by omega)⟩) (by simp))), ⟨by simp only; omega, DP.next hdp hrd, hadd, ?_⟩, by simp only; omega⟩
      simp only
      have := foldD_bd (ws := y.w) hbd rs (fun m hm => by have := hrs m hm; omega) (x := initD q) (Bd.repl q (v := -1) (by omega) (by omega))
      exact this.mono (by omega) (by omega)
end Go.Fw
