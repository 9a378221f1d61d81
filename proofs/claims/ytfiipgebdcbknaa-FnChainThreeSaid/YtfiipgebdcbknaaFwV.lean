/- Regions that draw their order: the schedule suffices, the whole. -/
import Derived.Test.YtfiipgebdcbknaaFwU
set_option linter.unusedSimpArgs false
set_option linter.unusedVariables false
namespace Go.Fw
open Go

section
variable {P : Program} {c : Ctx} {n : Nat} {ops : Array Oper} {fz : List Nat}

theorem ready_of_pending {Lp L : Array Bool} {dn pd : List Nat} (hi : Inv ops Lp L dn pd) (h : Region.ready .any ops L = []) : pd = [] := by
  cases pd with
  | nil => rfl
  | cons i r =>
    have : i ∈ Region.ready .any ops L := (ready_iff hi.sz).2 ⟨hi.lt i (by simp), hi.un i (by simp), fun d hd => (hi.ord [] i r rfl d hd).resolve_right (by simp)⟩
    rw [h] at this; simp at this

theorem ready_ne {Lp L : Array Bool} {dn pd : List Nat} (hi : Inv ops Lp L dn pd) {j : Nat} (hj : j ∈ Region.ready .any ops Lp) : Region.ready .any ops L ≠ [] := by
  intro h0
  have hp := ready_of_pending hi h0
  obtain ⟨hlt, hunl, hdeps⟩ := (ready_iff hi.szp).1 hj
  have : j ∈ Region.ready .any ops L := (ready_iff hi.sz).2 ⟨hlt, fun h => hunl ((hi.iff j).2 (.inl h)), fun d hd => by
    have := (hi.iff d).1 (hdeps d hd)
    rw [hp] at this
    simpa using this⟩
  rw [h0] at this; simp at this

theorem ready_up {Lp L : Array Bool} {dn pd : List Nat} (hi : Inv ops Lp L dn pd) {k : Nat} (hk : k ∈ Region.ready .any ops L) (hp : k ∉ pd) : k ∈ Region.ready .any ops Lp := by
  obtain ⟨h1, h2, h3⟩ := (ready_iff hi.sz).1 hk
  exact (ready_iff hi.szp).2 ⟨h1, fun h => (hi.iff k).1 h |>.elim h2 hp, fun d hd => (hi.iff d).2 (.inl (h3 d hd))⟩

theorem sched_sound (hns : Region.noSelect ops = true) (hin : dstsIn ops n) {K : AS → Prop} {Q : Exit → Act → World → Prop} (hQ : ∀ ch a w, ¬ Q (.panic ch) a w) (hn : ∀ σ' a' w', K σ' → Good P c n σ' a' w' → Q .normal a' w') :
    ∀ (fuel : Nat) (sc : Sched) (Lp L : Array Bool) (dn : List Nat) (pend : List (Nat × Value)) (σ : AS) (a : Act) (w : World), schedOk ops Lp dn sc = true → Inv ops Lp L dn (pend.map Prod.fst) → unl ops L ≤ fuel →
      vcSched P fz ops sc σ K → GP P c n σ ops pend a w → wpAny P .any ops Q fuel L a w := by
  intro fuel
  induction fuel with
  | zero => ?_
  | succ fuel ihf => ?_
  all_goals
    intro sc
    induction sc with
    | nil => ?_
    | pur i r ihs => ?_
    | eff j chk r ihs => ?_
    | alt j1 c1 r1 j2 c2 r2 ih1 ih2 => ?_
    | alt3 j1 c1 r1 j2 c2 r2 j3 c3 r3 ih1 ih2 ih3 => ?_
  · -- all is listed
    intro Lp L dn pend σ a w hsc hi hf hv hg
    have hnone : Region.ready .any ops L = [] := by
      rw [List.eq_nil_iff_forall_not_mem]
      intro k hk
      obtain ⟨h1, h2, _⟩ := (ready_iff hi.sz).1 hk
      have := unl_set hi.sz h1 h2; omega
    have hp := ready_of_pending hi hnone
    have hp' : pend = [] := by simpa using hp
    subst hp'
    exact ⟨hnone, hn σ a w hv hg.good⟩
  iterate 4
    · intro Lp L dn pend σ a w hsc hi hf hv hg
      have hnone : Region.ready .any ops L = [] := by
        rw [List.eq_nil_iff_forall_not_mem]
        intro k hk
        obtain ⟨h1, h2, _⟩ := (ready_iff hi.sz).1 hk
        have := unl_set hi.sz h1 h2; omega
      have hp := ready_of_pending hi hnone
      exfalso
      have key : ∀ k, k ∈ Region.ready .any ops Lp → False := fun k hk => by
        obtain ⟨h1, h2, h3⟩ := (ready_iff hi.szp).1 hk
        have : k ∈ Region.ready .any ops L := (ready_iff hi.sz).2 ⟨h1, fun h => h2 ((hi.iff k).2 (.inl h)), fun d hd => by
          have := (hi.iff d).1 (h3 d hd)
          rw [hp] at this
          simpa using this⟩
        rw [hnone] at this; simp at this
      simp only [schedOk, Bool.and_eq_true, List.contains_eq_mem, decide_eq_true_eq, beq_iff_eq] at hsc
      first
        | exact key _ hsc.1.1
        | exact key _ (by rw [hsc.1.1.1]; exact List.mem_cons_self)
        | exact key _ (by rw [hsc.1.1]; exact List.mem_cons_self)
        | exact key _ (by rw [hsc.1.1.1]; exact List.mem_cons_self)
  all_goals
    intro Lp L dn pend σ a w hsc hi hf hv hg
  -- what is done with a pending operation
  all_goals
    have hpend : ∀ (sc : Sched), schedOk ops Lp dn sc = true → vcSched P fz ops sc σ K → ∀ k ∈ Region.ready .any ops L, k ∈ pend.map Prod.fst → wpOp P ops Q k (wpAny P .any ops Q fuel (L.setIfInBounds k true)) a w := by
      intro sc hsc hv k hk hkp
      obtain ⟨⟨k', u⟩, hm, rfl⟩ := List.mem_map.1 hkp
      obtain ⟨l1, l2, rfl⟩ := List.append_of_mem hm
      obtain ⟨hlt, hu, hdeps⟩ := (ready_iff hi.sz).1 hk
      obtain ⟨o, ho, hy⟩ := hg.yields (k', u) hm
      simp only at ho hy
      have hi' := take_pending hi hk
      have hlook : looksOf ops k' = o.looksAt ops := by simp [looksOf, ho]
      have hsel := fun cs b => Region.noSelect_spec hns k' o cs b ho
      have hdisj : ∀ p ∈ l1 ++ (k', u) :: l2, ∀ d, dstOf ops p.1 = some d → d ∉ o.looksAt ops := fun p hp d hd hl => by
        have hpm : p.1 ∈ (l1 ++ (k', u) :: l2).map Prod.fst := List.mem_map.2 ⟨p, hp, rfl⟩
        obtain ⟨s, hs, hself, hoth⟩ := pureOk_spec (hi.ok _ (hi.mem _ hpm))
        rw [hs] at hd; cases hd
        rw [← hlook] at hl
        by_cases he : k' = p.1
        · rw [he] at hl; exact hself hl
        · exact hi.un _ hpm (hdeps _ ((hoth k' he).2 hl))
      obtain ⟨e1, e2⟩ := fill_exec hsel _ a hdisj
      have hy' : YieldsAt P ops o u a w := hy.of_same e1.symm e2.symm
      have hdst : dstOf ops k' = o.dst := by simp [dstOf, ho]
      have hfill : fill ops (a.put o.dst u) (l1 ++ l2) = fill ops a (l1 ++ (k', u) :: l2) := by
        rw [fill_append, fill_append]
        simp only [fill]
        rw [fill_put u l1 a, hdst]
        intro p hp d hd hd'
        have hpm : p.1 ∈ (l1 ++ (k', u) :: l2).map Prod.fst := List.mem_map.2 ⟨p, by simp [hp], rfl⟩
        have hkm : k' ∈ (l1 ++ (k', u) :: l2).map Prod.fst := List.mem_map.2 ⟨(k', u), by simp, rfl⟩
        obtain ⟨s, hs, _, hoth⟩ := pureOk_spec (hi.ok _ (hi.mem _ hkm))
        have hne : p.1 ≠ k' := fun e => by
          have hnd := hi.nd
          simp only [List.map_append, List.map_cons] at hnd
          exact (List.nodup_append.1 hnd).2.2 p.1 (List.mem_map.2 ⟨p, hp, rfl⟩) k' (by simp) e
        rw [hdst, hd] at hs
        cases hs
        exact (hoth p.1 hne).1 hd'
      have hgp : GP P c n σ ops (l1 ++ l2) (a.put o.dst u) w := ⟨by rw [hfill]; exact hg.good, fun p hp => by
        rw [hfill]
        refine hg.yields p ?_
        rcases List.mem_append.1 hp with h | h
        · simp [h]
        · simp [h]⟩
      have hnext := ihf sc Lp (L.setIfInBounds k' true) dn (l1 ++ l2) σ (a.put o.dst u) w hsc hi' (by have : unl ops (L.setIfInBounds k' true) < unl ops L := unl_set hi.sz hlt hu; omega) hv hgp
      unfold wpOp
      simp only [ho]
      rcases hy' with ⟨hw, hv'⟩ | ⟨hw, rfl⟩
      · simp only [hw, if_true, Oper.wp, hv', Oper.upon]; exact .inl hnext
      · simp only [hw, Bool.false_eq_true, if_false]; exact hnext
  · -- nothing is left of the schedule
    have hdone : Region.ready .any ops Lp = [] := by simpa [schedOk] using hsc
    refine ⟨fun h0 => ?_, fun k hk => ?_⟩
    · have hp' : pend = [] := by simpa using ready_of_pending hi h0
      subst hp'
      exact hn σ a w hv hg.good
    · by_cases hkp : k ∈ pend.map Prod.fst
      · exact hpend .nil hsc hv k hk hkp
      · have := ready_up hi hk hkp
        rw [hdone] at this; simp at this
  -- an effect that is ready
  all_goals
    have heff : ∀ (j : Nat) (chk : List Nat) (r : Sched), j ∈ Region.ready .any ops Lp → effOk ops j = true → (∀ i ∈ dn, i ∈ chk ∨ ancB ops ops.size i j = true) → schedOk ops (Lp.setIfInBounds j true) dn r = true →
        (vcIdx P fz ops j σ fun σ' => chkAll P ops σ' chk ∧ vcSched P fz ops r σ' K) → j ∈ Region.ready .any ops L → j ∉ pend.map Prod.fst → wpOp P ops Q j (wpAny P .any ops Q fuel (L.setIfInBounds j true)) a w := by
      intro k chk r hjr heok hchk hrest hv hk hkp
      obtain ⟨hlt, hunl, hdeps⟩ := (ready_iff hi.szp).1 hjr
      obtain ⟨_, hunL, hdepsL⟩ := (ready_iff hi.sz).1 hk
      simp only [vcIdx] at hv
      have ho : ops[k]? = some ops[k] := Array.getElem?_eq_getElem hlt
      rw [ho] at hv
      simp only at hv
      have hsel := fun cs b => Region.noSelect_spec hns k ops[k] cs b ho
      have hdstk : dstOf ops k = (ops[k]).dst := by simp [dstOf, ho]
      have hdd : ∀ t, (ops[k]).dst = some t → t < n := fun t ht => hin k t (by rw [hdstk]; exact ht)
      have hsound := vcOp_sound (P := P) (c := c) (n := n) (fz := fz) (ops := ops) (N := fun a' w' => ∃ σ', (chkAll P ops σ' chk ∧ vcSched P fz ops r σ' K) ∧ Good P c n σ' a' w') (Q := Q) hg.good hdd (fun j b _ t ht => hin j t ht) hv
        fun σ' a' w' hk hg' => ⟨σ', hk, hg'⟩
      have hpm : ∀ p ∈ pend, p.1 ∈ pend.map Prod.fst := fun p hp => List.mem_map.2 ⟨p, hp, rfl⟩
      have hne : ∀ p ∈ pend, k ≠ p.1 := fun p hp e => hkp (e ▸ hpm p hp)
      have hwp := wp_fill (P := P) (Q := Q) (N' := wpAny P .any ops Q fuel (L.setIfInBounds k true)) hsel (a := a) (pend := pend)
        (fun p hp d hd hl => by
          obtain ⟨s, hs, _, hoth⟩ := pureOk_spec (hi.ok _ (hi.mem _ (hpm p hp)))
          rw [hs] at hd; cases hd
          have := (hoth k (hne p hp)).2 (by simpa [looksOf, ho] using hl)
          exact hi.un _ (hpm p hp) (hdepsL _ this))
        (fun p hp d hd hd' => by
          obtain ⟨s, hs, _, hoth⟩ := pureOk_spec (hi.ok _ (hi.mem _ (hpm p hp)))
          rw [hs] at hd'; cases hd'
          exact (hoth k (hne p hp)).1 (by rw [hdstk]; exact hd))
        hQ (fun a w ⟨σ', _, hg'⟩ => hg'.defers) (fun v w' ⟨σ', ⟨hc, hvr⟩, hg'⟩ => by
          obtain ⟨pend', e1, g1, g2⟩ := refill hns hin pend _ hi.sep hg' fun q hq => by
            refine chkAll_get hc q.1 ?_
            rcases hchk q.1 (hi.mem _ (hpm q hq)) with h | h
            · exact h
            · exact absurd (ancB_closed hi.cl _ _ _ h hdepsL) (hi.un _ (hpm q hq))
          refine ihf r (Lp.setIfInBounds k true) (L.setIfInBounds k true) dn pend' σ' _ w' hrest ?_ (by have := unl_set hi.sz hlt hunL; omega) hvr ⟨g1, g2⟩
          rw [e1]
          have sL : ∀ i, lst (L.setIfInBounds k true) i ↔ i = k ∨ lst L i := fun i => lst_set (by rw [hi.sz]; exact hlt)
          have sP : ∀ i, lst (Lp.setIfInBounds k true) i ↔ i = k ∨ lst Lp i := fun i => lst_set (by rw [hi.szp]; exact hlt)
          refine ⟨by simp [hi.sz], by simp [hi.szp], fun i => ?_, fun i hip => ?_, hi.nd, hi.mem, hi.ok, hi.lt, fun i hl d hd => ?_, fun l1 i l2 he d hd => ?_⟩
          · rw [sL, sP, hi.iff]
            constructor
            · rintro (h | h | h)
              · exact .inl (.inl h)
              · exact .inl (.inr h)
              · exact .inr h
            · rintro ((h | h) | h)
              · exact .inl h
              · exact .inr (.inl h)
              · exact .inr (.inr h)
          · rw [sL]
            rintro (rfl | h)
            · exact hkp hip
            · exact hi.un i hip h
          · rw [sL] at hl ⊢
            rcases hl with rfl | h
            · exact .inr (hdepsL d hd)
            · exact .inr (hi.cl i h d hd)
          · rw [sL]
            rcases hi.ord l1 i l2 he d hd with h | h
            · exact .inl (.inr h)
            · exact .inr h) hsound
      unfold wpOp
      simp only [ho]
      split
      · rename_i hw; rw [if_pos hw] at hwp; exact .inl hwp
      · rename_i hw; rw [if_neg hw] at hwp; exact hwp
  · have hsc0 := hsc
    simp only [schedOk, Bool.and_eq_true, List.contains_eq_mem, decide_eq_true_eq] at hsc
    obtain ⟨⟨hrdy, hpok⟩, hrest⟩ := hsc
    obtain ⟨hlt, hunl, hdeps⟩ := (ready_iff hi.szp).1 hrdy
    obtain ⟨s, hs, hself, hoth⟩ := pureOk_spec hpok
    simp only [vcSched] at hv
    unfold vcPur at hv
    split at hv
    · rename_i o ho
      split at hv
      · rename_i p x hpv
        obtain ⟨hp, hv⟩ := hv
        have hdst : o.dst = some s := by simpa [dstOf, ho] using hs
        have hgd : ∀ j b, o.guard = some (j, b) → ∀ t, (ops[j]?).bind (·.dst) = some t → t < n := fun j b _ t ht => hin j t ht
        have hlook : looksOf ops i = o.looksAt ops := by simp [looksOf, ho]
        have hsel := fun cs b => Region.noSelect_spec hns i o cs b ho
        obtain ⟨⟨loc, hr⟩, hsz, hdf⟩ := hg.good
        obtain ⟨u, hy, hrep⟩ := pure_yields hr hsz hgd hpv hp
        have hipd : i ∉ pend.map Prod.fst := fun h => hunl ((hi.iff i).2 (.inr h))
        have hiL : ¬ lst L i := fun h => hunl ((hi.iff i).2 (.inl h))
        have hfill : fill ops a (pend ++ [(i, u)]) = (fill ops a pend).put (some s) u := by rw [fill_append]; simp only [fill, hs]
        refine ihs (Lp.setIfInBounds i true) L (dn ++ [i]) (pend ++ [(i, u)]) (σ.put o.dst x) a w hrest ?_ hf hv ⟨?_, fun q hq => ?_⟩
        · refine ⟨hi.sz, by simp [hi.szp], fun k => ?_, fun k hk => ?_, ?_, fun k hk => ?_, fun k hk => ?_, fun k hk => ?_, hi.cl, fun l1 k l2 he d hd => ?_⟩
          · rw [lst_set (by rw [hi.szp]; exact hlt), hi.iff]
            simp only [List.map_append, List.map_cons, List.map_nil, List.mem_append, List.mem_singleton]
            constructor
            · rintro (h | h | h)
              · exact .inr (.inr h)
              · exact .inl h
              · exact .inr (.inl h)
            · rintro (h | h | h)
              · exact .inr (.inl h)
              · exact .inr (.inr h)
              · exact .inl h
          · simp only [List.map_append, List.map_cons, List.map_nil, List.mem_append, List.mem_singleton] at hk
            rcases hk with h | rfl
            · exact hi.un k h
            · exact hiL
          · simp only [List.map_append, List.map_cons, List.map_nil]
            refine List.nodup_append.2 ⟨hi.nd, by simp, fun x hx y hy => ?_⟩
            simp at hy; subst hy; exact fun e => hipd (e ▸ hx)
          · simp only [List.map_append, List.map_cons, List.map_nil, List.mem_append, List.mem_singleton] at hk ⊢
            exact hk.imp (hi.mem k) id
          · rcases List.mem_append.1 hk with h | h
            · exact hi.ok k h
            · simp at h; subst h; exact hpok
          · simp only [List.map_append, List.map_cons, List.map_nil, List.mem_append, List.mem_singleton] at hk
            rcases hk with h | rfl
            · exact hi.lt k h
            · exact hlt
          · simp only [List.map_append, List.map_cons, List.map_nil] at he
            rcases List.append_eq_append_iff.1 he with ⟨t, h1, h2⟩ | ⟨t, h1, h2⟩
            · cases t with
              | nil =>
                simp only [List.nil_append, List.append_nil] at h1 h2
                simp only [List.cons.injEq] at h2
                obtain ⟨rfl, _⟩ := h2
                rw [h1]
                exact (hi.iff d).1 (hdeps d hd)
              | cons y t =>
                simp only [List.cons_append, List.cons.injEq] at h2
                obtain ⟨_, h2⟩ := h2
                simp at h2
            · cases t with
              | nil =>
                simp only [List.nil_append, List.append_nil] at h1 h2
                simp only [List.cons.injEq] at h2
                obtain ⟨rfl, _⟩ := h2
                rw [← h1]
                exact (hi.iff d).1 (hdeps d hd)
              | cons y t =>
                simp only [List.cons_append, List.cons.injEq] at h2
                obtain ⟨rfl, h2⟩ := h2
                exact hi.ord l1 k t h1 d hd
        · rw [hfill, hdst]
          exact Good.put (fun t ht => by cases ht; exact hin i s hs) hsz hdf (hr.setVal1 hrep)
        · rw [hfill]
          rcases List.mem_append.1 hq with hq | hq
          · obtain ⟨oq, hoq, hyq⟩ := hg.yields q hq
            refine ⟨oq, hoq, hyq.of_same ?_ ?_⟩
            all_goals
              have hqm : q.1 ∈ pend.map Prod.fst := List.mem_map.2 ⟨q, hq, rfl⟩
              have hlk : ∀ d, some s = some d → d ∉ oq.looksAt ops := fun d hd hl => by
                cases hd
                have hne : q.1 ≠ i := fun e => hipd (e ▸ hqm)
                have := (hoth q.1 hne).2 (by simpa [looksOf, hoq] using hl)
                obtain ⟨m1, m2, hm⟩ := List.append_of_mem hqm
                rcases hi.ord m1 q.1 m2 hm i this with h | h
                · exact hiL h
                · exact hipd (by rw [hm]; simp [h])
            · exact execOp_put oq (fun cs b => Region.noSelect_spec hns q.1 oq cs b hoq) _ _ _ hlk
            · exact wanted_put oq _ _ _ hlk
          · simp only [List.mem_singleton] at hq; subst hq
            have hlk : ∀ d, some s = some d → d ∉ o.looksAt ops := fun d hd => by cases hd; rw [← hlook]; exact hself
            exact ⟨o, ho, hy.of_same (execOp_put o hsel _ _ _ hlk) (wanted_put o _ _ _ hlk)⟩
      · exact hv.elim
    · exact hv.elim
  · have hsc0 := hsc
    have hv0 := hv
    simp only [schedOk, Bool.and_eq_true, beq_iff_eq, List.all_eq_true, Bool.or_eq_true, List.contains_eq_mem, decide_eq_true_eq] at hsc
    obtain ⟨⟨⟨hrdy, heok⟩, hchk⟩, hrest⟩ := hsc
    have hjr : j ∈ Region.ready .any ops Lp := by rw [hrdy]; simp
    refine ⟨fun h0 => absurd h0 (ready_ne hi hjr), fun k hk => ?_⟩
    by_cases hkp : k ∈ pend.map Prod.fst
    · exact hpend (.eff j chk r) hsc0 hv0 k hk hkp
    · have hkj : k = j := by have := ready_up hi hk hkp; rw [hrdy] at this; simpa using this
      subst hkj
      exact heff k chk r hjr heok hchk hrest hv hk hkp
  · have hsc0 := hsc
    have hv0 := hv
    simp only [schedOk, Bool.and_eq_true, beq_iff_eq, List.all_eq_true, Bool.or_eq_true, List.contains_eq_mem, decide_eq_true_eq] at hsc
    obtain ⟨⟨hrdy, ⟨heok1, hchk1⟩, hrest1⟩, ⟨heok2, hchk2⟩, hrest2⟩ := hsc
    have hjr1 : j1 ∈ Region.ready .any ops Lp := by rw [hrdy]; simp
    have hjr2 : j2 ∈ Region.ready .any ops Lp := by rw [hrdy]; simp
    refine ⟨fun h0 => absurd h0 (ready_ne hi hjr1), fun k hk => ?_⟩
    by_cases hkp : k ∈ pend.map Prod.fst
    · exact hpend (.alt j1 c1 r1 j2 c2 r2) hsc0 hv0 k hk hkp
    · have hkj : k = j1 ∨ k = j2 := by have := ready_up hi hk hkp; rw [hrdy] at this; simpa using this
      rcases hkj with rfl | rfl
      · exact heff k c1 r1 hjr1 heok1 hchk1 hrest1 hv.1 hk hkp
      · exact heff k c2 r2 hjr2 heok2 hchk2 hrest2 hv.2 hk hkp
  · have hsc0 := hsc
    have hv0 := hv
    simp only [schedOk, Bool.and_eq_true, beq_iff_eq, List.all_eq_true, Bool.or_eq_true, List.contains_eq_mem, decide_eq_true_eq] at hsc
    obtain ⟨⟨⟨hrdy, ⟨heok1, hchk1⟩, hrest1⟩, ⟨heok2, hchk2⟩, hrest2⟩, ⟨heok3, hchk3⟩, hrest3⟩ := hsc
    have hjr1 : j1 ∈ Region.ready .any ops Lp := by rw [hrdy]; simp
    have hjr2 : j2 ∈ Region.ready .any ops Lp := by rw [hrdy]; simp
    have hjr3 : j3 ∈ Region.ready .any ops Lp := by rw [hrdy]; simp
    refine ⟨fun h0 => absurd h0 (ready_ne hi hjr1), fun k hk => ?_⟩
    by_cases hkp : k ∈ pend.map Prod.fst
    · exact hpend (.alt3 j1 c1 r1 j2 c2 r2 j3 c3 r3) hsc0 hv0 k hk hkp
    · have hkj : k = j1 ∨ k = j2 ∨ k = j3 := by have := ready_up hi hk hkp; rw [hrdy] at this; simpa using this
      rcases hkj with rfl | rfl | rfl
      · exact heff k c1 r1 hjr1 heok1 hchk1 hrest1 hv.1 hk hkp
      · exact heff k c2 r2 hjr2 heok2 hchk2 hrest2 hv.2.1 hk hkp
      · exact heff k c3 r3 hjr3 heok3 hchk3 hrest3 hv.2.2 hk hkp

/-- One schedule stands for all orders. -/
theorem any_of_sched (sc : Sched) (hns : Region.noSelect ops = true) (hin : dstsIn ops n) (hsc : schedOk ops (Array.replicate ops.size false) [] sc = true) {K : AS → Prop} {Q : Exit → Act → World → Prop} (hQ : ∀ ch a w, ¬ Q (.panic ch) a w) (hn : ∀ σ' a' w', K σ' → Good P c n σ' a' w' → Q .normal a' w')
    {σ : AS} {a : Act} {w : World} (hg : Good P c n σ a w) (hv : vcSched P fz ops sc σ K) : wpAny P .any ops Q ops.size (Array.replicate ops.size false) a w := by
  have h0 : ∀ i, ¬ lst (Array.replicate ops.size false) i := fun i => by
    simp only [lst, Array.getD_eq_getD_getElem?, Array.getElem?_replicate]
    split <;> simp
  refine sched_sound hns hin hQ hn ops.size sc _ _ [] [] σ a w hsc ?_ ?_ hv ⟨hg, by simp⟩
  · exact ⟨by simp, by simp, fun i => by simp, by simp, by simp, by simp, by simp, by simp, fun i h => absurd h (h0 i), fun l1 i l2 he => by simp at he⟩
  · unfold unl
    exact Nat.le_trans List.countP_le_length (by simp)

end
end Go.Fw
