/- Rewriters, one behind the other, in plain Lean. -/
import Derived.Test.YteenfgdemklhcaaMk
import Derived.Test.YteenfgdemklhcaaLi
set_option linter.unusedSimpArgs false
set_option linter.unusedVariables false
namespace Go.Fw
open Go Go.Proofs
set_option linter.unnecessarySimpa false
set_option linter.unusedSectionVars false

/-- What is written for a letter; for the end. -/
def Rw.o (r : Rw) (q c : Int) : List UInt8 := (r.out.getD q.toNat []).getD c.toNat []
def Rw.n (r : Rw) (q c : Int) : Int := (r.next.getD q.toNat []).getD c.toNat 0
def Rw.f (r : Rw) (q : Int) : List UInt8 := r.fin.getD q.toNat []
def Rw.st (r : Rw) (q : Int) : Prop := 0 ≤ q ∧ q < r.next.length
theorem stepRw_is (r : Rw) (q : Int × List UInt8) (b : UInt8) : stepRw r q b = (r.n q.1 (ltr b), q.2 ++ r.o q.1 (ltr b)) := rfl
theorem runRw_cons (r : Rw) (q : Int) (b : UInt8) (s : List UInt8) : runRw r q (b :: s) = ((runRw r (r.n q (ltr b)) s).1, r.o q (ltr b) ++ (runRw r (r.n q (ltr b)) s).2) := by
  have h : ∀ (s : List UInt8) (q : Int) (x y : List UInt8), s.foldl (stepRw r) (q, x ++ y) = ((s.foldl (stepRw r) (q, y)).1, x ++ (s.foldl (stepRw r) (q, y)).2) := by
    intro s
    induction s with
    | nil => intro q x y; rfl
    | cons b s ih => intro q x y; simp only [List.foldl_cons, stepRw_is, List.append_assoc]; exact ih _ _ _
  have := h s (r.n q (ltr b)) (r.o q (ltr b)) []
  simp only [List.append_nil] at this
  show s.foldl (stepRw r) (stepRw r (q, []) b) = _
  rw [stepRw_is]; simp only [List.nil_append]; exact this
theorem runRw_nil (r : Rw) (q : Int) : runRw r q [] = (q, []) := rfl
theorem runRw_app (r : Rw) (s t : List UInt8) : ∀ q, runRw r q (s ++ t) = ((runRw r (runRw r q s).1 t).1, (runRw r q s).2 ++ (runRw r (runRw r q s).1 t).2) := by
  induction s with
  | nil => intro q; simp [runRw_nil]
  | cons b s ih => intro q; rw [List.cons_append, runRw_cons, ih, runRw_cons]; simp
/-- All that is written for a text. -/
def Rw.text (r : Rw) (q : Int) (s : List UInt8) : List UInt8 := (runRw r q s).2 ++ r.f (runRw r q s).1
theorem text_nil (r : Rw) (q : Int) : r.text q [] = r.f q := by simp [Rw.text, runRw_nil]
theorem text_cons (r : Rw) (q : Int) (b : UInt8) (s : List UInt8) : r.text q (b :: s) = r.o q (ltr b) ++ r.text (r.n q (ltr b)) s := by simp [Rw.text, runRw_cons]
theorem text_app (r : Rw) (q : Int) (s t : List UInt8) : r.text q (s ++ t) = (runRw r q s).2 ++ r.text (runRw r q s).1 t := by simp [Rw.text, runRw_app]

theorem okRw_n {r : Rw} (h : okRw r = true) {q c : Int} (hq : r.st q) (hc : 0 ≤ c ∧ c < 3) : r.st (r.n q c) := by
  obtain ⟨g1, g2, g3, g4, g5⟩ := okRw_row h (k := q.toNat) (by have := hq.1; have := hq.2; omega)
  have a3 := getD_row (xs := r.next.getD q.toNat []) (i := c.toNat) 0 (by omega)
  have := g4 _ (List.mem_of_getElem? a3.1)
  exact ⟨this.1, by unfold Rw.n; omega⟩
theorem okRw_o {r : Rw} (h : okRw r = true) {q c : Int} (hq : r.st q) (hc : 0 ≤ c ∧ c < 3) : isOut (r.o q c) = true := by
  obtain ⟨g1, g2, g3, g4, g5⟩ := okRw_row h (k := q.toNat) (by have := hq.1; have := hq.2; omega)
  have a3 := getD_row (xs := r.out.getD q.toNat []) (i := c.toNat) [] (by omega)
  exact g5 _ (List.mem_of_getElem? a3.1)
theorem okRw_f {r : Rw} (h : okRw r = true) {q : Int} (hq : r.st q) : isOut (r.f q) = true :=
  (okRw_row h (k := q.toNat) (by have := hq.1; have := hq.2; omega)).2.2.1
theorem isOut_l {s : List UInt8} (h : isOut s = true) : s.all isL = true ∧ s.length ≤ 4 := by
  simp only [isOut, lettersOk, Bool.and_eq_true, decide_eq_true_eq] at h; exact ⟨h.1, by omega⟩
theorem runRw_letters {r : Rw} (h : okRw r = true) : ∀ {s : List UInt8} {q : Int}, r.st q → s.all isL = true → r.st (runRw r q s).1 ∧ (runRw r q s).2.all isL = true ∧ (runRw r q s).2.length ≤ 4 * s.length
  | [], q, hq, _ => ⟨hq, by simp [runRw_nil], by simp [runRw_nil]⟩
  | b :: s, q, hq, hs => by
    simp only [List.all_cons, Bool.and_eq_true] at hs
    have hb := ltr_of hs.1
    have ih := runRw_letters h (s := s) (okRw_n h hq (c := ltr b) (by omega)) hs.2
    have ho := isOut_l (okRw_o h hq (c := ltr b) (by omega))
    rw [runRw_cons]
    refine ⟨ih.1, by rw [List.all_append, ho.1, ih.2.1]; rfl, ?_⟩
    simp only [List.length_append, List.length_cons]; omega
theorem text_letters {r : Rw} (h : okRw r = true) {s : List UInt8} {q : Int} (hq : r.st q) (hs : s.all isL = true) : (r.text q s).all isL = true := by
  obtain ⟨h1, h2, _⟩ := runRw_letters h hq hs
  rw [Rw.text, List.all_append, h2, (isOut_l (okRw_f h h1)).1]; rfl

/-! ### One behind the other -/

def nxC (a b : Rw) (s : Pr) (c : Int) : Pr := ⟨a.n s.a c, (runRw b s.b (a.o s.a c)).1⟩
def outC (a b : Rw) (s : Pr) : List (List UInt8) := [(runRw b s.b (a.o s.a 0)).2, (runRw b s.b (a.o s.a 1)).2, (runRw b s.b (a.o s.a 2)).2]
def finC (a b : Rw) (s : Pr) : List UInt8 := b.text s.b (a.f s.a)
def chainRw (a b : Rw) (L : List Pr) : Rw := ⟨L.map (rowL (nxC a b) L), L.map (outC a b), L.map (finC a b)⟩
def okPr (a b : Rw) (s : Pr) : Prop := a.st s.a ∧ b.st s.b
theorem okPr_step {a b : Rw} (ha : okRw a = true) (hb : okRw b = true) {s : Pr} {c : Int} (hs : okPr a b s) (hc : 0 ≤ c ∧ c < 3) : okPr a b (nxC a b s c) :=
  ⟨okRw_n ha hs.1 hc, (runRw_letters hb hs.2 (isOut_l (okRw_o ha hs.1 hc)).1).1⟩
theorem st0Rw {a : Rw} (h : okRw a = true) : a.st 0 := by have := okRw_len h; exact ⟨by omega, by omega⟩

/-- The number of a pair, and the pair. -/
theorem chain_text {a b : Rw} (ha : okRw a = true) (hb : okRw b = true) {L : List Pr} (hL : Whole (nxC a b) ⟨0, 0⟩ L) (hok : ∀ s ∈ L, okPr a b s) : ∀ (t : List UInt8), t.all isL = true → ∀ (q : Int) (s : Pr), AtL L q s → (chainRw a b L).text q t = b.text s.b (a.text s.a t) := by
  intro t
  induction t with
  | nil =>
    intro _ q s hq
    rw [text_nil, text_nil]
    simp [Rw.f, chainRw, hq.2, finC]
  | cons x t ih =>
    intro ht q s hq
    simp only [List.all_cons, Bool.and_eq_true] at ht
    have hx := ltr_of ht.1
    have hc : 0 ≤ ltr x ∧ ltr x < 3 := by omega
    have e1 : (chainRw a b L).n q (ltr x) = (L.idxOf (nxC a b s (ltr x)) : Int) := by
      have : (chainRw a b L).next.getD q.toNat [] = rowL (nxC a b) L s := by simp [chainRw, hq.2]
      unfold Rw.n
      rw [this]
      rcases letter3 hc with h | h | h <;> rw [h] <;> simp [rowL, suc]
    have e2 : (chainRw a b L).o q (ltr x) = (runRw b s.b (a.o s.a (ltr x))).2 := by
      have : (chainRw a b L).out.getD q.toNat [] = outC a b s := by simp [chainRw, hq.2]
      unfold Rw.o
      rw [this]
      rcases letter3 hc with h | h | h <;> rw [h] <;> simp [outC, Rw.o]
    have hin := hL.suc s hq.mem _ (mem_suc (nx := nxC a b) (s := s) hc)
    rw [text_cons, e1, e2, ih ht.2 _ _ (atL_idx hin), text_cons, text_app]
    rfl

theorem chain_len (a b : Rw) (L : List Pr) : (chainRw a b L).next.length = L.length := by simp [chainRw]
/-- Of pairs no more are met than there are. -/
theorem pairs_bound {a b : Rw} {L : List Pr} (hn : L.Nodup) (hok : ∀ s ∈ L, okPr a b s) : L.length ≤ a.next.length * b.next.length := by
  have hinj : ∀ s ∈ L, ∀ t ∈ L, s.a * b.next.length + s.b = t.a * b.next.length + t.b → s = t := by
    intro s hs t ht e
    obtain ⟨⟨s1, s2⟩, s3, s4⟩ := hok s hs
    obtain ⟨⟨t1, t2⟩, t3, t4⟩ := hok t ht
    have e1 : s.a = t.a := by
      rcases Int.lt_trichotomy s.a t.a with h | h | h
      · have : (s.a + 1) * (b.next.length : Int) ≤ t.a * b.next.length := Int.mul_le_mul_of_nonneg_right (by omega) (by omega)
        rw [Int.add_mul] at this; omega
      · exact h
      · have : (t.a + 1) * (b.next.length : Int) ≤ s.a * b.next.length := Int.mul_le_mul_of_nonneg_right (by omega) (by omega)
        rw [Int.add_mul] at this; omega
    have e2 : s.b = t.b := by rw [e1] at e; omega
    cases s; cases t; simp at e1 e2; subst e1; subst e2; rfl
  have := nodup_bound (a.next.length * b.next.length) (L.map fun s => s.a * b.next.length + s.b) ?_ ?_
  · simpa using this
  · rw [List.Nodup, List.pairwise_map]
    refine List.Pairwise.imp_of_mem ?_ hn
    intro x y hx hy hne e
    exact hne (hinj x hx y hy e)
  · intro x hx
    simp only [List.mem_map] at hx
    obtain ⟨s, hs, rfl⟩ := hx
    obtain ⟨⟨s1, s2⟩, s3, s4⟩ := hok s hs
    have h1 : 0 ≤ s.a * (b.next.length : Int) := Int.mul_nonneg s1 (by omega)
    have h2 : (s.a + 1) * (b.next.length : Int) ≤ (a.next.length : Int) * b.next.length := Int.mul_le_mul_of_nonneg_right (by omega) (by omega)
    rw [Int.add_mul] at h2
    refine ⟨by omega, ?_⟩
    rw [Int.natCast_mul]; omega

def zeroRw : Rw := ⟨[], [], []⟩
/-- What is found for two rewriters. -/
def ChainIs (a b : Rw) (R : Rw) (ok : Bool) : Prop :=
  (¬ (okRw a = true ∧ okRw b = true) ∧ R = zeroRw ∧ ok = false) ∨
  ((okRw a = true ∧ okRw b = true) ∧
    ((∃ k, (metK (nxC a b) ⟨0, 0⟩ k).length ≤ k ∧ (metK (nxC a b) ⟨0, 0⟩ k).length ≤ 12 ∧ ((okRw (chainRw a b (metK (nxC a b) ⟨0, 0⟩ k)) = true ∧ R = chainRw a b (metK (nxC a b) ⟨0, 0⟩ k) ∧ ok = true) ∨ (okRw (chainRw a b (metK (nxC a b) ⟨0, 0⟩ k)) = false ∧ R = zeroRw ∧ ok = false))) ∨
     (∃ k, 12 < (metK (nxC a b) ⟨0, 0⟩ k).length ∧ R = zeroRw ∧ ok = false)))
section
variable {S : Type} [DecidableEq S] {nx : S → Int → S} {s0 : S}
theorem metK_done1 {k1 k2 : Nat} (h1 : (metK nx s0 k1).length ≤ k1) (h2 : (metK nx s0 k2).length ≤ k2) : metK nx s0 k1 = metK nx s0 k2 := by
  rcases Nat.le_total k1 k2 with h | h
  · exact (metK_stable h1 h).symm
  · exact metK_stable h2 h
theorem metK_done2 {k1 k2 : Nat} (h1 : (metK nx s0 k1).length ≤ k1) : (metK nx s0 k2).length ≤ (metK nx s0 k1).length := by
  rcases Nat.le_total k1 k2 with h | h
  · rw [metK_stable h1 h]; exact Nat.le_refl _
  · exact (metK_prefix h).length_le
end
theorem ChainIs.uniq {a b R Q : Rw} {ok ok' : Bool} (h : ChainIs a b R ok) (h' : ChainIs a b Q ok') : R = Q ∧ ok = ok' := by
  rcases h with ⟨v, rfl, rfl⟩ | ⟨v, h⟩ <;> rcases h' with ⟨v', rfl, rfl⟩ | ⟨v', h'⟩
  · exact ⟨rfl, rfl⟩
  · exact absurd v' v
  · exact absurd v v'
  · rcases h with ⟨k, h1, h2, h3⟩ | ⟨k, h1, rfl, rfl⟩ <;> rcases h' with ⟨k', h1', h2', h3'⟩ | ⟨k', h1', rfl, rfl⟩
    · rw [metK_done1 h1 h1'] at h3
      rcases h3 with ⟨g, rfl, rfl⟩ | ⟨g, rfl, rfl⟩ <;> rcases h3' with ⟨g', rfl, rfl⟩ | ⟨g', rfl, rfl⟩
      · exact ⟨rfl, rfl⟩
      · rw [g] at g'; cases g'
      · rw [g] at g'; cases g'
      · exact ⟨rfl, rfl⟩
    · have := metK_done2 (k2 := k') h1; omega
    · have := metK_done2 (k2 := k) h1'; omega
    · exact ⟨rfl, rfl⟩
theorem met_okPr {a b : Rw} (ha : okRw a = true) (hb : okRw b = true) (k : Nat) : ∀ s ∈ metK (nxC a b) ⟨0, 0⟩ k, okPr a b s :=
  metK_ind (p := okPr a b) ⟨st0Rw ha, st0Rw hb⟩ (fun s hs => ⟨okPr_step ha hb hs (by omega), okPr_step ha hb hs (by omega), okPr_step ha hb hs (by omega)⟩) k
/-- If it is possible: what is known of it. -/
theorem ChainIs.good {a b R : Rw} (h : ChainIs a b R true) : okRw a = true ∧ okRw b = true ∧ okRw R = true ∧ R.next.length ≤ a.next.length * b.next.length ∧ ∀ t, t.all isL = true → R.text 0 t = b.text 0 (a.text 0 t) := by
  rcases h with ⟨_, _, h⟩ | ⟨⟨ha, hb⟩, h⟩
  · cases h
  · rcases h with ⟨k, h1, h2, h3⟩ | ⟨k, _, _, h⟩
    · rcases h3 with ⟨g, rfl, _⟩ | ⟨_, _, h⟩
      · have hw := metK_whole h1
        have hok := met_okPr ha hb k
        refine ⟨ha, hb, g, by rw [chain_len]; exact pairs_bound hw.nodup hok, fun t ht => chain_text ha hb hw hok t ht 0 ⟨0, 0⟩ ⟨by omega, hw.head⟩⟩
      · cases h
    · cases h
theorem rewrite_text {r : Rw} (s : List UInt8) : rewrite r s = if okRw r && textOk s then r.text 0 s else [] := rfl
end Go.Fw
