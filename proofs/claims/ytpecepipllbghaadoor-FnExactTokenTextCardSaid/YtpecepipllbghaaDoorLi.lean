/- Rewriters: validity, and what they write. -/
import Derived.Test.YtpecepipllbghaaDoorLb
set_option linter.unusedSimpArgs false
set_option linter.unusedVariables false
namespace Go.Fw
open Go Go.Proofs

theorem foldl_take2 {α β : Type} (f : β → α → β) (b : β) {s : List α} {i : Nat} (h : i < s.length) : (s.take (i + 1)).foldl f b = f ((s.take i).foldl f b) s[i] := by
  rw [take_snoc h, List.foldl_append]; rfl

structure Rw where
  next : List (List Int)
  out : List (List (List UInt8))
  fin : List (List UInt8)
deriving DecidableEq
abbrev ssD (xs : List (List UInt8)) : D := .list (xs.map sD)
abbrev intsD (xs : List Int) : D := .list (xs.map iD)
def Rw.d (r : Rw) : D := .agg [.list (r.next.map intsD), .list (r.out.map ssD), ssD r.fin]

def isOut (s : List UInt8) : Bool := lettersOk s 4
/-- Is the row of a state as it has to be? -/
def rowOk (n : Nat) (nx : List Int) (o : List (List UInt8)) (f : List UInt8) : Bool :=
  decide (nx.length = 3) && decide (o.length = 3) && isOut f && nx.all (fun t => inR t 0 ((n : Int) - 1)) && o.all isOut
def okRw (r : Rw) : Bool :=
  inR r.next.length 1 12 && decide (r.out.length = r.next.length) && decide (r.fin.length = r.next.length) &&
    (List.range r.next.length).all fun k => rowOk r.next.length (r.next.getD k []) (r.out.getD k []) (r.fin.getD k [])

/-- One letter. -/
def stepRw (r : Rw) (q : Int × List UInt8) (b : UInt8) : Int × List UInt8 :=
  ((r.next.getD q.1.toNat []).getD (ltr b).toNat 0, q.2 ++ (r.out.getD q.1.toNat []).getD (ltr b).toNat [])
def runRw (r : Rw) (from_ : Int) (s : List UInt8) : Int × List UInt8 := s.foldl (stepRw r) (from_, [])
def rewrite (r : Rw) (s : List UInt8) : List UInt8 :=
  if okRw r && textOk s then (runRw r 0 s).2 ++ r.fin.getD (runRw r 0 s).1.toNat [] else []

theorem getD_row {α : Type} {xs : List α} {i : Nat} (d : α) (h : i < xs.length) : xs[i]? = some (xs.getD i d) ∧ (∀ h, xs[i]'h = xs.getD i d) := ⟨by simp [h], fun h => by simp [h]⟩

/-- What is known of a valid rewriter's state. -/
theorem okRw_row {r : Rw} (h : okRw r = true) {k : Nat} (hk : k < r.next.length) : (r.next.getD k []).length = 3 ∧ (r.out.getD k []).length = 3 ∧ isOut (r.fin.getD k []) = true ∧
    (∀ t ∈ r.next.getD k [], 0 ≤ t ∧ t ≤ (r.next.length : Int) - 1) ∧ ∀ o ∈ r.out.getD k [], isOut o = true := by
  simp only [okRw, Bool.and_eq_true, List.all_eq_true, List.mem_range] at h
  have := h.2 k hk
  simp only [rowOk, Bool.and_eq_true, decide_eq_true_eq, List.all_eq_true] at this
  refine ⟨this.1.1.1.1, this.1.1.1.2, this.1.1.2, fun t ht => ?_, this.2⟩
  have h2 := this.1.2 t ht
  simpa [inR] using h2
theorem okRw_len {r : Rw} (h : okRw r = true) : 1 ≤ r.next.length ∧ r.next.length ≤ 12 ∧ r.out.length = r.next.length ∧ r.fin.length = r.next.length := by
  simp only [okRw, Bool.and_eq_true, decide_eq_true_eq, inR] at h
  omega

theorem stepRw_ok {r : Rw} (h : okRw r = true) {q : Int × List UInt8} {b : UInt8} (hq : 0 ≤ q.1 ∧ q.1 < r.next.length) (hb : isL b = true) :
    (0 ≤ (stepRw r q b).1 ∧ (stepRw r q b).1 < r.next.length) ∧ (stepRw r q b).2.length ≤ q.2.length + 4 := by
  have hk : q.1.toNat < r.next.length := by omega
  obtain ⟨h1, h2, h3, h4, h5⟩ := okRw_row h hk
  have hl := ltr_of hb
  have e1 := getD_row (xs := r.next.getD q.1.toNat []) (i := (ltr b).toNat) 0 (by omega)
  have e2 := getD_row (xs := r.out.getD q.1.toNat []) (i := (ltr b).toNat) [] (by omega)
  have m1 := h4 _ (List.mem_of_getElem? e1.1)
  have m2 := letters_len (h5 _ (List.mem_of_getElem? e2.1))
  refine ⟨?_, ?_⟩
  · show 0 ≤ (r.next.getD q.1.toNat []).getD (ltr b).toNat 0 ∧ (r.next.getD q.1.toNat []).getD (ltr b).toNat 0 < r.next.length
    omega
  · show (q.2 ++ (r.out.getD q.1.toNat []).getD (ltr b).toNat []).length ≤ _
    rw [List.length_append]; omega
theorem runRw_snoc (r : Rw) (f : Int) {s : List UInt8} {i : Nat} (h : i < s.length) : runRw r f (s.take (i + 1)) = stepRw r (runRw r f (s.take i)) s[i] := by
  unfold runRw; rw [foldl_take2 _ _ h]
theorem runRw_ok {r : Rw} (h : okRw r = true) {f : Int} (hf : 0 ≤ f ∧ f < r.next.length) : ∀ {s : List UInt8}, s.all isL = true → (0 ≤ (runRw r f s).1 ∧ (runRw r f s).1 < r.next.length) ∧ (runRw r f s).2.length ≤ 4 * s.length := by
  intro s
  induction s using snocInd with
  | nil => intro _; exact ⟨hf, by simp [runRw]⟩
  | snoc s b ih =>
    intro hs
    simp only [List.all_append, List.all_cons, List.all_nil, Bool.and_true, Bool.and_eq_true] at hs
    have h1 := ih hs.1
    have h2 := stepRw_ok h h1.1 hs.2
    have e : runRw r f (s ++ [b]) = stepRw r (runRw r f s) b := by unfold runRw; rw [List.foldl_append]; rfl
    rw [e]
    refine ⟨h2.1, ?_⟩
    rw [List.length_append, List.length_singleton]; omega

theorem c_idxInts (xs : List Int) (S : List D → (D → Prop) → Prop) (p : Int → Bool) (hS : ∀ x ∈ xs, ∀ K : D → Prop, K (.bool (p x)) → S [iD x] K) (hlen : xs.length ≤ 9223372036854775807) :
    DCalls Tryd.prog 67 [.d (.list (xs.map iD)), .clo S] fun y => y = iD (idxI p xs) := by
  refine dcalls_intro Ty.mixed Tryd.func67 rfl rfl rfl [] (by kernel_rfl) (by simp) ?_
  simp
  refine LoopVC.at { i : Nat // i ≤ xs.length ∧ ∀ j (h : j < xs.length), j < i → p xs[j] = false } (fun i => [(0, .d (.list (xs.map iD))), (1, .clo S), (7, iA xs.length), (8, iA i.1)]) (fun _ => []) [] (fun i => xs.length - i.1) ⟨0, by simp⟩ (by simp) (by simp) ?_
  rintro ⟨i, hi, hp⟩
  rcases Nat.lt_or_ge i xs.length with h | h
  · simp [h]
    refine hS xs[i] (List.getElem_mem h) _ ?_
    simp
    refine ⟨fun ht => (idxI_found h hp ht).symm, fun hf => ⟨i + 1, .mk (by simp; exact wrap64 (by omega) (by omega)) (by simp), ⟨h, upto_succ hp h hf⟩, by omega⟩⟩
  · simp [Nat.not_lt.2 h]
    exact (idxI_none h hp).symm
theorem c_hasInts (xs : List Int) (S : List D → (D → Prop) → Prop) (p : Int → Bool) (hS : ∀ x ∈ xs, ∀ K : D → Prop, K (.bool (p x)) → S [iD x] K) (hlen : xs.length ≤ 9223372036854775807) :
    DCalls Tryd.prog 54 [.d (.list (xs.map iD)), .clo S] fun y => y = .bool (xs.any p) := by
  refine dcalls_intro Ty.mixed Tryd.func54 rfl rfl rfl [] (by kernel_rfl) (by simp) ?_
  simp
  refine .dval (c_idxInts xs S p hS hlen) rfl (by simp) rfl ?_
  simp
  exact idxI_any p xs
/-! ### What a rewriter writes -/

/-! ### Validity -/

/-- No list in it is too long for a machine's numbers. -/
structure Rw.fine (r : Rw) : Prop where
  out : ∀ (xs : List (List UInt8)), xs ∈ r.out → xs.length ≤ 9223372036854775807 ∧ ∀ x ∈ xs, x.length ≤ 9223372036854775807
  fin : ∀ x ∈ r.fin, x.length ≤ 9223372036854775807
  next : ∀ x ∈ r.next, x.length ≤ 9223372036854775807
  len : r.next.length ≤ 9223372036854775807

end Go.Fw
