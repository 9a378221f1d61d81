/- Sets of states that are met: the program and the specification count the same. -/
import Derived.Test.YtbkbpnccnhaolaaMl
set_option linter.unusedSimpArgs false
set_option linter.unusedVariables false
namespace Go.Fw
open Go Go.Proofs
set_option linter.unusedSectionVars false

section
variable {S T : Type} [DecidableEq S] [DecidableEq T] {nx : S → Int → S} {s0 : S}
theorem metK_done_uniq {k1 k2 : Nat} (h1 : (metK nx s0 k1).length ≤ k1) (h2 : (metK nx s0 k2).length ≤ k2) : metK nx s0 k1 = metK nx s0 k2 := by
  rcases Nat.le_total k1 k2 with h | h
  · exact (metK_stable h1 h).symm
  · exact metK_stable h2 h
theorem metK_done_le {k1 k2 : Nat} (h1 : (metK nx s0 k1).length ≤ k1) : (metK nx s0 k2).length ≤ (metK nx s0 k1).length := by
  rcases Nat.le_total k1 k2 with h | h
  · rw [metK_stable h1 h]; exact Nat.le_refl _
  · exact (metK_prefix h).length_le
end

theorem flagsE_get (n : Nat) (xs : List Int) (h : ∀ x ∈ xs, 0 ≤ x ∧ x < n) (k : Nat) : (flagsE n xs).getD k false = decide ((k : Int) ∈ xs) := by
  induction xs using snocInd with
  | nil =>
    simp only [flagsE, List.foldl_nil, List.getD_eq_getElem?_getD, List.getElem?_replicate]
    split <;> simp
  | snoc s b ih =>
    have h1 := ih fun x hx => h x (by simp [hx])
    have hb := h b (by simp)
    have hl := flagsE_len n s
    have e : flagsE n (s ++ [b]) = (flagsE n s).set b.toNat true := by unfold flagsE; rw [List.foldl_append]; rfl
    rw [e, getD_set_true _ _ _ (by omega), h1]
    rw [Bool.eq_iff_iff]
    simp only [Bool.or_eq_true, decide_eq_true_iff, List.mem_append, List.mem_singleton]
    constructor
    · rintro (h | h)
      · right; omega
      · left; exact h
    · rintro (h | h)
      · right; exact h
      · left; omega
theorem flagsE_list (xs : List Bool) : flagsE xs.length (listE xs) = xs := by
  refine List.ext_getElem (flagsE_len _ _) fun k h1 h2 => ?_
  have := flagsE_get xs.length (listE xs) (fun x hx => by
    obtain ⟨g1, g2⟩ := mem_listE.1 hx
    refine ⟨g1, ?_⟩
    rcases Nat.lt_or_ge x.toNat xs.length with h | h
    · omega
    · simp [List.getElem?_eq_none h] at g2) k
  rw [(getD_row false h1).2 h1, this, (getD_row false h2).2 h2]
  rw [Bool.eq_iff_iff, decide_eq_true_iff, mem_listE]
  simp
def stOfM (xs : List Bool) : St := ⟨(stOf (listE xs)).1, (stOf (listE xs)).2⟩
theorem bits_stOfM {xs : List Bool} (h : xs.length ≤ 128) : BitsOf ((stOfM xs).a, (stOfM xs).b) xs := by
  have := bits_of_list (n := xs.length) h (xs := listE xs) fun x hx => by
    obtain ⟨g1, g2⟩ := mem_listE.1 hx
    refine ⟨g1, ?_⟩
    rcases Nat.lt_or_ge x.toNat xs.length with h | h
    · omega
    · simp [List.getElem?_eq_none h] at g2
  rw [flagsE_list] at this
  exact this
def marksOf (n : Nat) (s : St) : List Bool := (List.range n).map fun k => stHas s.a s.b k
theorem marksOf_bits {s : St} {xs : List Bool} (h : BitsOf (s.a, s.b) xs) : marksOf xs.length s = xs := by
  have hl := h.len
  refine List.ext_getElem (by simp [marksOf]) fun k h1 h2 => ?_
  simp only [marksOf, List.getElem_map, List.getElem_range]
  rw [h.bit k (by omega)]
  exact ((getD_row false h2).2 h2).symm

/-- The program's sets. -/
def nxS (a : Na) (s : St) (c : Int) : St := stOfM (nxE a (marksOf a.n.toNat s) c)
def finS (a : Na) (s : St) : Bool := a.es.any fun x => stHas s.a s.b x.toNat
def isSt (a : Na) (s : St) : Prop := ∃ xs : List Bool, xs.length = a.n.toNat ∧ BitsOf (s.a, s.b) xs
theorem isSt_of (a : Na) (hn : a.n ≤ 40) {xs : List Bool} (h : xs.length = a.n.toNat) : isSt a (stOfM xs) := ⟨xs, h, bits_stOfM (by omega)⟩

/-- The same states are met. -/
def RelS (a : Na) (s : St) (xs : List Bool) : Prop := xs.length = a.n.toNat ∧ BitsOf (s.a, s.b) xs
theorem relS_uniq (a : Na) (s : St) (x : List Bool) (t : St) (y : List Bool) (h : RelS a s x) (h' : RelS a t y) : s = t ↔ x = y := by
  constructor
  · rintro rfl; exact h.2.eq h'.2 (by rw [h.1, h'.1])
  · rintro rfl
    have := h.2.inj h'.2
    simp only [Prod.mk.injEq] at this
    cases s; cases t; simp at this; obtain ⟨rfl, rfl⟩ := this; rfl
theorem relS_met (a : Na) (hn : a.n ≤ 40) (k : Nat) : Rel2 (RelS a) (metK (nxS a) (stOfM (firstE a)) k) (metK (nxE a) (firstE a) k) := by
  have hf : (firstE a).length = a.n.toNat := by simp [firstE, closeE_len, flagsE_len]
  refine metK_rel (relS_uniq a) ⟨hf, bits_stOfM (by omega)⟩ (fun s x h => ?_) k
  have : ∀ c, RelS a (nxS a s c) (nxE a x c) := fun c => by
    have e : marksOf a.n.toNat s = x := by rw [← h.1]; exact marksOf_bits h.2
    have hl : (nxE a x c).length = a.n.toNat := nextE_len _ _ _ _
    refine ⟨hl, ?_⟩
    unfold nxS
    rw [e]
    exact bits_stOfM (by omega)
  exact ⟨this 0, this 1, this 2⟩

theorem stD_uD (a b : Nat) : stD a b = uD ⟨a, b⟩ := rfl

set_option maxRecDepth 100000 in
theorem c_determinize (a : Na) (h : okNa a = true) (hfi : a.fine) : TCalls Try.prog 89 [.d a.d] fun r =>
    (∃ k, (metK (nxS a) (stOfM (firstE a)) k).length ≤ k ∧ (metK (nxS a) (stOfM (firstE a)) k).length ≤ 40 ∧ r = [(autoL (nxS a) (finS a) (metK (nxS a) (stOfM (firstE a)) k)).d, iD (metK (nxS a) (stOfM (firstE a)) k).length]) ∨
    (∃ k, 40 < (metK (nxS a) (stOfM (firstE a)) k).length ∧ r = [(Df.mk [] []).d, iD 41]) := by
  refine tcalls_intro Ty.mixed Try.func89 rfl rfl rfl [1] (by kernel_rfl) (by simp) ?_
  obtain ⟨k0, k1, k2, k3, k4, k5, k6⟩ := okNa_of h
  have hf : (firstE a).length = a.n.toNat := by simp [firstE, closeE_len, flagsE_len]
  have hex := c_exploredSet (stOfM (firstE a)) 40 (by omega) (by omega) (nxS a) (finS a) (isSt a) (isSt_of a k1 hf) (fun s c hs hc => isSt_of a k1 (nextE_len _ _ _ _))
    (cloS Try.prog 84 [.d a.d] []) (cloS Try.prog 86 [.d a.d] [])
    (fun s c hs hc K hK => by
      obtain ⟨xs, hx, hb⟩ := hs
      refine ⟨_, c_step a k1 k5 (by omega) (s.a, s.b) xs hb hx c, by rintro r ⟨q, rfl, _⟩; rfl, ?_⟩
      rintro r ⟨q, rfl, hq⟩
      have e : marksOf a.n.toNat s = xs := by rw [← hx]; exact marksOf_bits hb
      have hl : (nxE a xs c).length = a.n.toNat := nextE_len _ _ _ _
      have e2 := hq.inj (bits_stOfM (xs := nxE a xs c) (by omega))
      have e3 : stD q.1 q.2 = uD (nxS a s c) := by
        unfold nxS; rw [e, e2]; rfl
      rw [e3]; exact hK)
    (fun s hs K hK => by
      obtain ⟨xs, hx, hb⟩ := hs
      refine ⟨_, c_ends a s.a s.b hfi.es hb.lt1 hb.lt2 (fun x hx => by have := k4 x hx; omega), by rintro r rfl; rfl, ?_⟩
      rintro r rfl
      exact hK)
  have hfirst : DCalls Try.prog 121 [.d a.d] fun r => r = uD (stOfM (firstE a)) := by
    refine ACalls.mono (c_first a h hfi.fs) ?_
    rintro _ _ _ ⟨⟨r, rfl, q, rfl, hq⟩, rfl⟩
    have e2 := hq.inj (bits_stOfM (xs := firstE a) (by omega))
    refine ⟨⟨_, rfl, ?_⟩, rfl⟩
    show uD ⟨q.1, q.2⟩ = _
    rw [e2]
  simp [Na.d]
  refine .one (schA [.pur 0, .pur 2, .pur 3, .pur 4, .pur 5] (.alt 1 [2, 3, 4, 5] (schA [] (.alt 6 [] (sch [.pur 7, .pur 8, .pur 9, .pur 10, .eff 11 [0, 2, 3, 4, 5, 7, 8, 9, 10], .eff 12 [9, 10], .pur 13, .pur 14]) 11 [0, 2, 3, 4, 5] (sch [.eff 6 [], .pur 7, .pur 8, .pur 9, .pur 10, .eff 12 [9, 10], .pur 13, .pur 14]))) 11 [0, 2, 3, 4, 5] (sch [.eff 1 [2, 3, 4, 5], .eff 6 [], .pur 7, .pur 8, .pur 9, .pur 10, .eff 12 [9, 10], .pur 13, .pur 14]))) (by kernel_rfl) ?_
  simp
  refine ⟨?_, ?_⟩
  · refine .dval hfirst rfl (by simp [Na.d]) rfl ?_
    simp
    refine ⟨?_, ?_⟩
    · refine .tdat hex rfl (by simp [Na.d]) ?_
      rintro _ (⟨k, e1, e2, rfl⟩ | ⟨k, e1, rfl⟩)
      · simp [Df.d]
        exact .inl ⟨k, e1, e2, ⟨rfl, rfl⟩, rfl⟩
      · simp [Df.d]
        exact .inr ⟨k, e1⟩
    · refine .tdat hex rfl (by simp [Na.d]) ?_
      rintro _ (⟨k, e1, e2, rfl⟩ | ⟨k, e1, rfl⟩)
      · simp [Df.d]
        exact .inl ⟨k, e1, e2, ⟨rfl, rfl⟩, rfl⟩
      · simp [Df.d]
        exact .inr ⟨k, e1⟩
  · refine .dval hfirst rfl (by simp [Na.d]) rfl ?_
    simp
    refine .tdat hex rfl (by simp [Na.d]) ?_
    rintro _ (⟨k, e1, e2, rfl⟩ | ⟨k, e1, rfl⟩)
    · simp [Df.d]
      exact .inl ⟨k, e1, e2, ⟨rfl, rfl⟩, rfl⟩
    · simp [Df.d]
      exact .inr ⟨k, e1⟩

/-- How many sets of states are met. -/
def CountIs (a : Na) (r : Int) : Prop :=
  (okNa a = false ∧ r = -1) ∨ (okNa a = true ∧ ((∃ k, (metK (nxE a) (firstE a) k).length ≤ k ∧ (metK (nxE a) (firstE a) k).length ≤ 40 ∧ r = (metK (nxE a) (firstE a) k).length) ∨ (∃ k, 40 < (metK (nxE a) (firstE a) k).length ∧ r = 41)))
theorem CountIs.uniq {a : Na} {r q : Int} (h : CountIs a r) (h' : CountIs a q) : r = q := by
  rcases h with ⟨v, rfl⟩ | ⟨v, h⟩ <;> rcases h' with ⟨v', rfl⟩ | ⟨v', h'⟩
  · rfl
  · rw [v] at v'; cases v'
  · rw [v] at v'; cases v'
  · rcases h with ⟨k, h1, h2, rfl⟩ | ⟨k, h1, rfl⟩ <;> rcases h' with ⟨k', h1', h2', rfl⟩ | ⟨k', h1', rfl⟩
    · rw [metK_done_uniq h1 h1']
    · have := metK_done_le (k2 := k') h1; omega
    · have := metK_done_le (k2 := k) h1'; omega
    · rfl

theorem c_SubsetCount (a : Na) (hfi : a.fine) : DCalls Try.prog 37 [.d a.d] fun r => ∃ n, r = iD n ∧ CountIs a n := by
  refine dcalls_intro Ty.mixed Try.func37 rfl rfl rfl [1] (by kernel_rfl) (by simp) ?_
  simp [Na.d]
  refine .dval (c_NfaValid a hfi.ms hfi.fs hfi.es) rfl (by simp [Na.d]) rfl ?_
  simp
  refine ⟨fun hv => .inl ⟨hv, rfl⟩, fun hv => ?_⟩
  obtain ⟨k0, k1, k2, k3, k4, k5, k6⟩ := okNa_of hv
  refine .tdat (c_determinize a hv hfi) rfl (by simp [Na.d]) ?_
  rintro _ (⟨k, e1, e2, rfl⟩ | ⟨k, e1, rfl⟩)
  · have hr := (relS_met a k1 k).1
    simp [Df.d]
    rw [hr] at e1 e2 ⊢
    exact .inr ⟨hv, .inl ⟨k, e1, e2, rfl⟩⟩
  · have hr := (relS_met a k1 k).1
    simp [Df.d]
    rw [hr] at e1
    exact .inr ⟨hv, .inr ⟨k, e1, rfl⟩⟩

theorem c_sSubsetCount (a : Na) (hfi : a.fine) : DCalls Try.prog 36 [.d a.d] fun r => ∃ n, r = iD n ∧ CountIs a n := by
  refine dcalls_intro Ty.mixed Try.func36 rfl rfl rfl [1] (by kernel_rfl) (by simp) ?_
  simp [Na.d]
  refine .dval (c_sNfaValid a hfi.ms hfi.fs hfi.es) rfl (by simp [Na.d]) rfl ?_
  simp
  refine ⟨fun hv => .inl ⟨hv, rfl⟩, fun hv => ?_⟩
  obtain ⟨k0, k1, k2, k3, k4, k5, k6⟩ := okNa_of hv
  refine .tdat (c_l9Subsets a 40 (by omega) ⟨k0, k1⟩ k5 (by omega) k3 hfi.fs) rfl (by simp [Na.d]) ?_
  rintro _ ⟨k, e1, e2, e3, rfl⟩
  simp
  refine .inr ⟨hv, ?_⟩
  rcases Nat.lt_or_ge 40 (metK (nxE a) (firstE a) k).length with h | h
  · exact .inr ⟨k, h, by omega⟩
  · exact .inl ⟨k, by omega, h, by omega⟩

theorem c_FnExactSubsetCount (a : Na) (h : a.fine) : DCalls Try.prog 9 [.d a.d] fun y => y = .bool true := by
  refine dcalls_intro Ty.mixed Try.func9 rfl rfl rfl [1] (by kernel_rfl) (by simp) ?_
  simp [Na.d]
  refine .ddat (c_szNfa a 1048576 (by omega) h) rfl (by simp) ?_
  rintro _ ⟨v, rfl, h1, h2, h3⟩
  simp
  intro hz
  have hs := h3 hz
  refine .ddat (c_toNfa a hs) rfl (by simp) ?_
  rintro _ rfl
  simp
  refine .ddat (c_sSubsetCount a h) rfl (by simp) ?_
  rintro _ ⟨n, rfl, hn⟩
  simp
  refine .ddat (c_toNfa a hs) rfl (by simp) ?_
  rintro _ rfl
  simp [Na.d]
  refine .ddat (c_SubsetCount a h) rfl (by simp) ?_
  rintro _ ⟨m, rfl, hm⟩
  have := hn.uniq hm
  subst this
  simp
  refine .one (sch [.pur 0, .pur 1, .eff 2 [0], .eff 3 [], .pur 4]) (by kernel_rfl) ?_
  simp
  refine .ddat (c_toNfa a hs) rfl (by simp) ?_
  rintro _ rfl
  simp
  refine .dval (c_eqNfa a a hs) rfl (by simp) rfl ?_
  simp
end Go.Fw
