/- The first word of an automaton's language, as the program finds it. -/
import Derived.Test.YtmodfeaneggloaaQa
import Derived.Test.YtmodfeaneggloaaOr
set_option linter.unusedSimpArgs false
set_option linter.unusedVariables false
namespace Go.Fw
open Go Go.Proofs
set_option linter.unusedSectionVars false
set_option linter.unnecessarySimpa false

/-- The letter with a number. -/
def lt3 (c : Nat) : UInt8 := [97, 98, 99].getD c 97
theorem lt3_ok {c : Nat} (h : c < 3) : isL (lt3 c) = true ∧ ltr (lt3 c) = (c : Nat) := by
  obtain rfl | rfl | rfl : c = 0 ∨ c = 1 ∨ c = 2 := by omega
  all_goals decide
theorem ltxt_lt3 {c : Nat} (h : c < 3) : ltxt (c : Nat) = [lt3 c] := by
  obtain rfl | rfl | rfl : c = 0 ∨ c = 1 ∨ c = 2 := by omega
  all_goals rfl

abbrev WS := Int × List UInt8
/-- The queue, what has been met, and the rows of the words and the flags. -/
structure FwI (a : Df) (L : List WS) (k c : Nat) (W : List (List UInt8)) (B : List Bool) : Prop where
  bf : BfI a.go 0 L k c
  wl : W.length = a.next.length
  bl : B.length = a.next.length
  st : ∀ x ∈ L, a.st x.1
  wd : ∀ x ∈ L, W[x.1.toNat]? = some x.2
  bs : ∀ q : Nat, q < a.next.length → (B.getD q false = true ↔ ∃ x ∈ L, x.1 = q)

theorem FwI.len {a : Df} {L : List WS} {k c : Nat} {W : List (List UInt8)} {B : List Bool} (h : FwI a L k c W B) : L.length ≤ a.next.length := by
  have := nodup_bound a.next.length (L.map Prod.fst) h.bf.nd fun x hx => by
    obtain ⟨u, hu, rfl⟩ := List.mem_map.1 hx
    exact h.st u hu
  simpa using this

theorem FwI.add {a : Df} {L : List WS} {k c : Nat} {W : List (List UInt8)} {B : List Bool} (h : FwI a L k c W B) {q : Int} {w : List UInt8} {t : Nat} (hx : L[k]? = some (q, w)) (ht : a.go q (c : Nat) = (t : Int)) (htn : t < a.next.length) (hm : ¬ ∃ x ∈ L, x.1 = (t : Int)) (hc : c < 3) :
    FwI a (L ++ [((t : Int), w ++ [lt3 c])]) k (c + 1) (W.set t (w ++ [lt3 c])) (B.set t true) := by
  obtain ⟨l1, l2⟩ := lt3_ok hc
  have hb := h.bf.add hx (by
    rw [ht]
    intro hmem
    obtain ⟨y, hy, e⟩ := List.mem_map.1 hmem
    exact hm ⟨y, hy, e⟩) l1 l2
  simp only [ht] at hb
  refine ⟨hb, by simp [h.wl], by simp [h.bl], ?_, ?_, fun z hz => ?_⟩
  · intro x hx
    rcases List.mem_append.1 hx with hx | hx
    · exact h.st x hx
    · rw [List.mem_singleton.1 hx]; exact ⟨by simp, by simp; omega⟩
  · intro x hx
    rcases List.mem_append.1 hx with hx | hx
    · have h1 := h.st x hx
      have h2 : x.1 ≠ (t : Int) := fun e => hm ⟨x, hx, e⟩
      have h3 := h1.1
      rw [List.getElem?_set_ne (by omega)]
      exact h.wd x hx
    · rw [List.mem_singleton.1 hx]
      simp only [Int.toNat_natCast]
      rw [List.getElem?_set_self (by rw [h.wl]; exact htn)]
  · by_cases hzt : t = z
    · subst hzt
      rw [List.getD_eq_getElem?_getD, List.getElem?_set_self (by rw [h.bl]; exact htn)]
      simp
    · rw [List.getD_eq_getElem?_getD, List.getElem?_set_ne hzt, ← List.getD_eq_getElem?_getD, h.bs z hz]
      constructor
      · rintro ⟨x, hx, e⟩
        exact ⟨x, List.mem_append.2 (.inl hx), e⟩
      · rintro ⟨x, hx, e⟩
        rcases List.mem_append.1 hx with hx | hx
        · exact ⟨x, hx, e⟩
        · rw [List.mem_singleton.1 hx] at e
          simp only at e
          omega

structure FGw where
  L : List WS
  k : Nat
  J : List Int
  Q : List Int
  W : List (List UInt8)
  B : List Bool

/-- Rows of three states each, and as many flags. -/
structure Wf (a : Df) : Prop where
  len : 1 ≤ a.next.length ∧ a.next.length ≤ 2000 ∧ a.ends.length = a.next.length
  row : ∀ k, k < a.next.length → (a.next.getD k []).length = 3 ∧ ∀ t ∈ a.next.getD k [], a.st t
theorem wf_of {a : Df} (h : okDf a = true) : Wf a := by
  have := okDf_len h
  exact ⟨⟨by omega, by omega, by omega⟩, fun k hk => okDf_row h hk⟩
theorem Wf.st0 {a : Df} (h : Wf a) : a.st 0 := by have := h.len; exact ⟨by omega, by omega⟩
theorem Wf.go_st {a : Df} (h : Wf a) {q c : Int} (hq : a.st q) (hc : 0 ≤ c ∧ c < 3) : a.st (a.go q c) := by
  obtain ⟨h1, h2⟩ := h.row q.toNat (by have := hq; unfold Df.st at this; omega)
  have e := getD_row (xs := a.next.getD q.toNat []) (i := c.toNat) 0 (by omega)
  exact h2 _ (List.mem_of_getElem? e.1)
theorem Wf.fin_row {a : Df} (h : Wf a) {q : Int} (hq : a.st q) : q.toNat < a.ends.length ∧ 0 ≤ q ∧ q < a.ends.length ∧ a.ends[q.toNat]? = some (a.fin q) ∧ ∀ h, a.ends[q.toNat]'h = a.fin q := by
  have h1 := h.len
  have h2 := hq.1
  have h3 := hq.2
  have h4 := getD_row (xs := a.ends) (i := q.toNat) false (by omega)
  exact ⟨by omega, h2, by omega, h4.1, h4.2⟩

theorem FwI.init {a : Df} (h : Wf a) : FwI a [(0, [])] 0 0 (List.replicate a.next.length []) ((List.replicate a.next.length false).set 0 true) := by
  obtain ⟨n1, n2, n3⟩ := h.len
  refine ⟨BfI.init _ _, by simp, by simp, by simpa using h.st0, ?_, fun q hq => ?_⟩
  · intro x hx
    rw [List.mem_singleton.1 hx]
    show (List.replicate a.next.length ([] : List UInt8))[0]? = some []
    rw [List.getElem?_replicate, if_pos (by omega)]
  · simp only [List.getD_eq_getElem?_getD, List.getElem?_set]
    by_cases h0 : 0 = q
    · subst h0; simp; rw [if_pos hq]; rfl
    · rw [if_neg h0]
      have : ¬ (0 : Int) = (q : Int) := by omega
      simp [this, List.getElem?_replicate]
      split <;> simp

set_option maxHeartbeats 800000 in
set_option maxRecDepth 100000 in
theorem c_firstWord (a : Df) (h : Wf a) : TCalls Try.prog 61 [.d a.d] fun r => ∃ (s : List UInt8) (ok : Bool), r = [sD s, .bool ok] ∧ FirstW a.acc s ok ∧ s.length < a.next.length := by
  refine tcalls_intro Ty.mixed Try.func61 rfl rfl rfl [1] (by kernel_rfl) (by simp) ?_
  obtain ⟨n1, n2, n3⟩ := h.len
  simp [Df.d]
  refine ⟨⟨by omega, by omega⟩, ⟨by omega, by omega⟩, by omega, ?_⟩
  refine LoopVC.at { g : FGw // FwI a g.L g.k 0 g.W g.B ∧ g.Q = (g.L.drop g.k).map Prod.fst ∧ ∀ (i : Nat) (x : WS), g.L[i]? = some x → i < g.k → a.fin x.1 = false } (fun g => [(1, dpA a), (4, .sl 1 1300 0 a.next.length), (5, .sl 1 1700 0 a.next.length), (6, .sl 1 2000 g.1.J.length g.1.Q.length)])
    (fun g => [(1300, .ar 1 (g.1.W.map sD)), (1700, .ar 1 (g.1.B.map bD)), (2000, .ar 1 ((g.1.J ++ g.1.Q).map iD))]) [1300, 1700, 2000] (fun g => a.next.length - g.1.k) ⟨⟨[(0, [])], 0, [], [0], List.replicate a.next.length [], (List.replicate a.next.length false).set 0 true⟩, FwI.init h, rfl, fun i x _ hi => absurd hi (Nat.not_lt_zero i)⟩ (by simp) (by simp) ?_
  rintro ⟨⟨L, k, J, Q, W, B⟩, hF, hQ, hnf⟩
  simp only at hF hQ hnf
  rcases Nat.lt_or_ge k L.length with hk | hk
  · obtain ⟨⟨q, w⟩, hx⟩ : ∃ x, L[k]? = some x := ⟨_, List.getElem?_eq_getElem hk⟩
    have hxm := List.mem_of_getElem? hx
    have hqs := hF.st _ hxm
    have hwq := hF.wd _ hxm
    obtain ⟨q, rfl⟩ : ∃ z : Nat, q = z := ⟨q.toNat, by have := hqs.1; simp only at this; omega⟩
    have hqs : a.st (q : Int) := hqs
    have hqn : q < a.next.length := by have := hqs.2; omega
    obtain ⟨Q', hQ'⟩ : ∃ Q', Q = (q : Int) :: Q' := by
      rw [hQ, List.drop_eq_getElem_cons hk]
      obtain ⟨_, e⟩ := List.getElem?_eq_some_iff.1 hx
      rw [e]; exact ⟨_, rfl⟩
    subst hQ'
    have hwq' : W[q]? = some w := by simpa using hwq
    have hwl : q < W.length := by rw [hF.wl]; exact hqn
    have hwg : ∀ h, W[q]'h = w := fun h => (List.getElem?_eq_some_iff.1 hwq').2
    obtain ⟨f1, f2, f3, f4, f5⟩ := h.fin_row hqs
    rw [Int.toNat_natCast] at f4
    have f5 : ∀ h, a.ends[q]'h = a.fin q := f5
    have f1 : q < a.ends.length := by omega
    obtain ⟨r1, r2⟩ := h.row q hqn
    have a1 := getD_row (xs := a.next) (i := q) [] hqn
    have hgo : ∀ c : Nat, a.go q c = (a.next.getD q []).getD c 0 := fun c => by simp [Df.go]
    generalize a.next.getD q [] = nx at *
    simp [hwq', hwl, hwg, f1, f4, f5, a1, hqn, r1]
    have hlen := hF.bf.len k _ hx
    have hLn := hF.len
    have hkn : k < a.next.length := by omega
    refine ⟨fun hfin => ?_, fun hfin => ?_⟩
    · exact ⟨hF.bf.found hnf hx hfin, by simp only at hlen; omega⟩
    · refine LoopVC.at { p : FGw × Nat // FwI a p.1.L k p.2 p.1.W p.1.B ∧ p.2 ≤ 3 ∧ p.1.L[k]? = some ((q : Int), w) ∧ (q : Int) :: p.1.Q = (p.1.L.drop k).map Prod.fst ∧ ∀ (i : Nat) (x : WS), p.1.L[i]? = some x → i < k → a.fin x.1 = false }
        (fun p => [(1, dpA a), (4, .sl 1 1300 0 a.next.length), (5, .sl 1 1700 0 a.next.length), (6, .sl 1 2000 p.1.1.J.length (p.1.1.Q.length + 1)), (7, iA q), (42, .d (intsD nx)), (43, iA 3), (44, iA p.1.2)])
        (fun p => [(1300, .ar 1 (p.1.1.W.map sD)), (1700, .ar 1 (p.1.1.B.map bD)), (2000, .ar 1 ((p.1.1.J ++ (q : Int) :: p.1.1.Q).map iD))]) [1300, 1700, 2000] (fun p => 3 - p.1.2) ⟨(⟨L, k, J, Q', W, B⟩, 0), hF, by simp, hx, hQ, hnf⟩ (by simp [r1]) (by simp) ?_
      rintro ⟨⟨⟨L, k', J, Q, W, B⟩, c⟩, hF, hc, hx, hQ, hnf⟩
      simp only at hF hc hx hQ hnf
      rcases Nat.lt_or_ge c 3 with hc3 | hc3
      · have hxm := List.mem_of_getElem? hx
        have hgs := h.go_st hqs (c := (c : Int)) (by omega)
        have a2 := getD_row (xs := nx) (i := c) 0 (by omega)
        have hgo := hgo c
        rw [← hgo] at a2
        have hwl : q < W.length := by rw [hF.wl]; exact hqn
        have hwq' : W[q]? = some w := by simpa using hF.wd _ hxm
        have hwg : ∀ h, W[q]'h = w := fun h => (List.getElem?_eq_some_iff.1 hwq').2
        obtain ⟨t, ht⟩ : ∃ t : Nat, a.go q c = t := ⟨(a.go q c).toNat, by have := hgs.1; omega⟩
        rw [ht] at a2 hgs
        have htn : t < a.next.length := by have := hgs.2; omega
        have htb : t < B.length := by rw [hF.bl]; exact htn
        have htw : t < W.length := by rw [hF.wl]; exact htn
        obtain ⟨v, b2⟩ : ∃ v, B[t]? = some v := ⟨_, List.getElem?_eq_getElem htb⟩
        have b2' : ∀ h, B[t]'h = v := fun h => (List.getElem?_eq_some_iff.1 b2).2
        have hbs := hF.bs t htn
        have l3 : (c : Int) < 3 := by omega
        cases v with
        | true =>
          have hm := hbs.1 (by rw [List.getD_eq_getElem?_getD, b2]; rfl)
          obtain ⟨y, hy, hye⟩ := hm
          simp [l3, a2, r1, hc3, htb, b2, b2']
          refine ⟨htn, ⟨L, k, J, Q, W, B⟩, c + 1, .mk (by simp; exact wrap64 (by omega) (by omega)) (by simp), ⟨⟨hF.bf.skip hx hy (hye.trans ht.symm), hF.wl, hF.bl, hF.st, hF.wd, hF.bs⟩, hc3, hx, by rw [hQ, List.map_drop], fun i y b hi hik => hnf i (y, b) hi hik⟩, by omega⟩
        | false =>
          have hm : ¬ ∃ x ∈ L, x.1 = (t : Int) := fun h => by have := hbs.2 h; rw [List.getD_eq_getElem?_getD, b2] at this; cases this
          simp [l3, a2, r1, hc3, htb, b2, b2']
          refine ⟨htn, .one (sch [.pur 0, .pur 1, .pur 2, .pur 3, .pur 4, .pur 5, .pur 6, .eff 7 [0, 1, 2, 3, 4, 5], .pur 8, .pur 9, .eff 10 []]) (by kernel_rfl) ?_⟩
          simp [hwq', hwl, hwg, hqn]
          refine .dval (c_letterText (c : Int) (by omega) (by omega)) rfl (by simp) rfl ?_
          rw [ltxt_lt3 hc3]
          simp [htw, htn, hqn, hwl, hwq', hwg]
          have hwl2 := hF.bf.len k _ hx
          simp only at hwl2
          have hLl := hF.len
          have hkL : k < L.length := by
            rcases Nat.lt_or_ge k L.length with h1 | h1
            · exact h1
            · rw [List.getElem?_eq_none h1] at hx; cases hx
          have hQl : Q.length + 1 ≤ L.length := by
            have := congrArg List.length hQ
            simp at this; omega
          refine ⟨by omega, ⟨by omega, by omega⟩, ⟨L ++ [((t : Int), w ++ [lt3 c])], k, [], Q ++ [(t : Int)], W.set t (w ++ [lt3 c]), B.set t true⟩, c + 1, .mk ?_ ?_, ⟨hF.add hx ht htn hm hc3, hc3, ?_, ?_, fun i y b hi hik => ?_⟩, by omega⟩
          · simp; exact wrap64 (by omega) (by omega)
          · simp
          · show (L ++ [((t : Int), w ++ [lt3 c])])[k]? = _
            rw [List.getElem?_append_left (by omega)]; exact hx
          · show (q : Int) :: (Q ++ [(t : Int)]) = List.drop k (List.map Prod.fst (L ++ [((t : Int), w ++ [lt3 c])]))
            rw [List.map_append, List.drop_append_of_le_length (by simp; omega), ← List.map_drop, ← hQ]; simp
          · have hi : (L ++ [((t : Int), w ++ [lt3 c])])[i]? = some (y, b) := hi
            rw [List.getElem?_append_left (by omega)] at hi
            exact hnf i (y, b) hi hik
      · have : c = 3 := by omega
        subst this
        have hQ2 : Q = (L.drop (k + 1)).map Prod.fst := by
          have h1 := congrArg List.tail hQ
          rw [← List.map_tail, List.tail_drop] at h1
          exact h1
        simp
        refine ⟨by omega, ⟨L, k + 1, J ++ [(q : Int)], Q, W, B⟩, .mk (by simp) (by simp), ⟨⟨hF.bf.next, hF.wl, hF.bl, hF.st, hF.wd, hF.bs⟩, by rw [hQ2, List.map_drop], fun i y b hi hik => ?_⟩, by simp only; omega⟩
        have hik : i < k + 1 := hik
        rcases Nat.lt_or_ge i k with h1 | h1
        · exact hnf i (y, b) hi h1
        · have : i = k := by omega
          subst this
          rw [hx] at hi; cases hi; exact hfin
  · have hQ0 : Q = [] := by rw [hQ, List.drop_eq_nil_of_le hk]; rfl
    subst hQ0
    simp
    exact ⟨hF.bf.none hnf hk, by omega⟩

def FoR (a : Df) (r : List D) : Prop := ∃ (s : List UInt8) (ok : Bool), r = [sD s, .bool ok] ∧ ((okDf a = true ∧ FirstW a.acc s ok ∧ s.length < a.next.length) ∨ (okDf a = false ∧ s = [] ∧ ok = false))
theorem c_FirstOf (a : Df) (hf : a.fine) : TCalls Try.prog 16 [.d a.d] (FoR a) := by
  refine tcalls_intro Ty.mixed Try.func16 rfl rfl rfl [1] (by kernel_rfl) (by simp) ?_
  simp [Df.d]
  refine .dval (c_DfaValid a hf) rfl (by simp [Df.d]) rfl ?_
  simp
  refine ⟨fun hno => ⟨[], false, rfl, .inr ⟨hno, rfl, rfl⟩⟩, fun hok => ?_⟩
  refine .tdat (c_firstWord a (wf_of hok)) rfl (by simp [Df.d]) ?_
  rintro _ ⟨s, ok, rfl, h1, h2⟩
  simp
  exact ⟨s, ok, rfl, .inl ⟨hok, h1, h2⟩⟩
end Go.Fw
