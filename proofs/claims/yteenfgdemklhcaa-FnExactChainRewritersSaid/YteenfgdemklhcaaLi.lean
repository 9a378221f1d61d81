/- Rewriters: validity, and what they write. -/
import Derived.Test.YteenfgdemklhcaaLb
set_option linter.unusedSimpArgs false
set_option linter.unusedVariables false
namespace Go.Fw
open Go Go.Proofs

theorem foldl_take2 {α β : Type} (f : β → α → β) (b : β) {s : List α} {i : Nat} (h : i < s.length) : (s.take (i + 1)).foldl f b = f ((s.take i).foldl f b) s[i] := by
  rw [take_snoc h, List.foldl_append]; rfl

structure Rw where
  next : List (List Int)
  out : List (List (List UInt8))
  fin : List (List UInt8)
deriving DecidableEq
abbrev ssD (xs : List (List UInt8)) : D := .list (xs.map sD)
abbrev intsD (xs : List Int) : D := .list (xs.map iD)
def Rw.d (r : Rw) : D := .agg [.list (r.next.map intsD), .list (r.out.map ssD), ssD r.fin]

def isOut (s : List UInt8) : Bool := lettersOk s 4
/-- Is the row of a state as it has to be? -/
def rowOk (n : Nat) (nx : List Int) (o : List (List UInt8)) (f : List UInt8) : Bool :=
  decide (nx.length = 3) && decide (o.length = 3) && isOut f && nx.all (fun t => inR t 0 ((n : Int) - 1)) && o.all isOut
def okRw (r : Rw) : Bool :=
  inR r.next.length 1 12 && decide (r.out.length = r.next.length) && decide (r.fin.length = r.next.length) &&
    (List.range r.next.length).all fun k => rowOk r.next.length (r.next.getD k []) (r.out.getD k []) (r.fin.getD k [])

/-- One letter. -/
def stepRw (r : Rw) (q : Int × List UInt8) (b : UInt8) : Int × List UInt8 :=
  ((r.next.getD q.1.toNat []).getD (ltr b).toNat 0, q.2 ++ (r.out.getD q.1.toNat []).getD (ltr b).toNat [])
def runRw (r : Rw) (from_ : Int) (s : List UInt8) : Int × List UInt8 := s.foldl (stepRw r) (from_, [])
def rewrite (r : Rw) (s : List UInt8) : List UInt8 :=
  if okRw r && textOk s then (runRw r 0 s).2 ++ r.fin.getD (runRw r 0 s).1.toNat [] else []

theorem getD_row {α : Type} {xs : List α} {i : Nat} (d : α) (h : i < xs.length) : xs[i]? = some (xs.getD i d) ∧ (∀ h, xs[i]'h = xs.getD i d) := ⟨by simp [h], fun h => by simp [h]⟩

/-- What is known of a valid rewriter's state. -/
theorem okRw_row {r : Rw} (h : okRw r = true) {k : Nat} (hk : k < r.next.length) : (r.next.getD k []).length = 3 ∧ (r.out.getD k []).length = 3 ∧ isOut (r.fin.getD k []) = true ∧
    (∀ t ∈ r.next.getD k [], 0 ≤ t ∧ t ≤ (r.next.length : Int) - 1) ∧ ∀ o ∈ r.out.getD k [], isOut o = true := by
  simp only [okRw, Bool.and_eq_true, List.all_eq_true, List.mem_range] at h
  have := h.2 k hk
  simp only [rowOk, Bool.and_eq_true, decide_eq_true_eq, List.all_eq_true] at this
  refine ⟨this.1.1.1.1, this.1.1.1.2, this.1.1.2, fun t ht => ?_, this.2⟩
  have h2 := this.1.2 t ht
  simpa [inR] using h2
theorem okRw_len {r : Rw} (h : okRw r = true) : 1 ≤ r.next.length ∧ r.next.length ≤ 12 ∧ r.out.length = r.next.length ∧ r.fin.length = r.next.length := by
  simp only [okRw, Bool.and_eq_true, decide_eq_true_eq, inR] at h
  omega

theorem stepRw_ok {r : Rw} (h : okRw r = true) {q : Int × List UInt8} {b : UInt8} (hq : 0 ≤ q.1 ∧ q.1 < r.next.length) (hb : isL b = true) :
    (0 ≤ (stepRw r q b).1 ∧ (stepRw r q b).1 < r.next.length) ∧ (stepRw r q b).2.length ≤ q.2.length + 4 := by
  have hk : q.1.toNat < r.next.length := by omega
  obtain ⟨h1, h2, h3, h4, h5⟩ := okRw_row h hk
  have hl := ltr_of hb
  have e1 := getD_row (xs := r.next.getD q.1.toNat []) (i := (ltr b).toNat) 0 (by omega)
  have e2 := getD_row (xs := r.out.getD q.1.toNat []) (i := (ltr b).toNat) [] (by omega)
  have m1 := h4 _ (List.mem_of_getElem? e1.1)
  have m2 := letters_len (h5 _ (List.mem_of_getElem? e2.1))
  refine ⟨?_, ?_⟩
  · show 0 ≤ (r.next.getD q.1.toNat []).getD (ltr b).toNat 0 ∧ (r.next.getD q.1.toNat []).getD (ltr b).toNat 0 < r.next.length
    omega
  · show (q.2 ++ (r.out.getD q.1.toNat []).getD (ltr b).toNat []).length ≤ _
    rw [List.length_append]; omega
theorem runRw_snoc (r : Rw) (f : Int) {s : List UInt8} {i : Nat} (h : i < s.length) : runRw r f (s.take (i + 1)) = stepRw r (runRw r f (s.take i)) s[i] := by
  unfold runRw; rw [foldl_take2 _ _ h]
theorem runRw_ok {r : Rw} (h : okRw r = true) {f : Int} (hf : 0 ≤ f ∧ f < r.next.length) : ∀ {s : List UInt8}, s.all isL = true → (0 ≤ (runRw r f s).1 ∧ (runRw r f s).1 < r.next.length) ∧ (runRw r f s).2.length ≤ 4 * s.length := by
  intro s
  induction s using snocInd with
  | nil => intro _; exact ⟨hf, by simp [runRw]⟩
  | snoc s b ih =>
    intro hs
    simp only [List.all_append, List.all_cons, List.all_nil, Bool.and_true, Bool.and_eq_true] at hs
    have h1 := ih hs.1
    have h2 := stepRw_ok h h1.1 hs.2
    have e : runRw r f (s ++ [b]) = stepRw r (runRw r f s) b := by unfold runRw; rw [List.foldl_append]; rfl
    rw [e]
    refine ⟨h2.1, ?_⟩
    rw [List.length_append, List.length_singleton]; omega

theorem c_isOut (s : List UInt8) (h : s.length ≤ 9223372036854775807) : DCalls Try.prog 81 [sA s] fun y => y = .bool (isOut s) := by
  refine dcalls_intro Ty.mixed Try.func81 rfl rfl rfl [] (by kernel_rfl) (by simp) ?_
  simp
  refine .dval (c_areLetters s 4 h) rfl (by simp) rfl ?_
  simp [isOut]
theorem c_l21Text (s : List UInt8) (most : Int) (hlen : s.length ≤ 9223372036854775807) : DCalls Try.prog 80 [sA s, iA most] fun y => y = .bool (lettersOk s most) := by
  refine dcalls_intro Ty.mixed Try.func80 rfl rfl rfl [] (by kernel_rfl) (by simp) ?_
  simp
  refine LoopVC.at { i : Nat // i ≤ s.length ∧ ∀ j (h : j < s.length), j < i → isL s[j] = true } (fun i => [(0, sA s), (1, iA most), (5, iA i.1)]) (fun _ => []) [] (fun i => s.length - i.1) ⟨0, by simp⟩ (by simp) (by simp) ?_
  rintro ⟨i, hi, hp⟩
  rcases Nat.lt_or_ge i s.length with h | h
  · simp [h, wrap_byte]
    refine .dval (c_l1In _ _ _) rfl (by simp) rfl ?_
    simp
    refine ⟨fun hb => ?_, fun hb => ⟨i + 1, .mk (by simp; exact wrap64 (by omega) (by omega)) (by simp), ⟨h, upto_succ hp h hb⟩, by omega⟩⟩
    rw [lettersOk, all_false h hb]; rfl
  · simp [Nat.not_lt.2 h, lettersOk, all_true h hp]

theorem c_idxInts (xs : List Int) (S : List D → (D → Prop) → Prop) (p : Int → Bool) (hS : ∀ x ∈ xs, ∀ K : D → Prop, K (.bool (p x)) → S [iD x] K) (hlen : xs.length ≤ 9223372036854775807) :
    DCalls Try.prog 88 [.d (.list (xs.map iD)), .clo S] fun y => y = iD (idxI p xs) := by
  refine dcalls_intro Ty.mixed Try.func88 rfl rfl rfl [] (by kernel_rfl) (by simp) ?_
  simp
  refine LoopVC.at { i : Nat // i ≤ xs.length ∧ ∀ j (h : j < xs.length), j < i → p xs[j] = false } (fun i => [(0, .d (.list (xs.map iD))), (1, .clo S), (7, iA xs.length), (8, iA i.1)]) (fun _ => []) [] (fun i => xs.length - i.1) ⟨0, by simp⟩ (by simp) (by simp) ?_
  rintro ⟨i, hi, hp⟩
  rcases Nat.lt_or_ge i xs.length with h | h
  · simp [h]
    refine hS xs[i] (List.getElem_mem h) _ ?_
    simp
    refine ⟨fun ht => (idxI_found h hp ht).symm, fun hf => ⟨i + 1, .mk (by simp; exact wrap64 (by omega) (by omega)) (by simp), ⟨h, upto_succ hp h hf⟩, by omega⟩⟩
  · simp [Nat.not_lt.2 h]
    exact (idxI_none h hp).symm
theorem c_hasInts (xs : List Int) (S : List D → (D → Prop) → Prop) (p : Int → Bool) (hS : ∀ x ∈ xs, ∀ K : D → Prop, K (.bool (p x)) → S [iD x] K) (hlen : xs.length ≤ 9223372036854775807) :
    DCalls Try.prog 66 [.d (.list (xs.map iD)), .clo S] fun y => y = .bool (xs.any p) := by
  refine dcalls_intro Ty.mixed Try.func66 rfl rfl rfl [] (by kernel_rfl) (by simp) ?_
  simp
  refine .dval (c_idxInts xs S p hS hlen) rfl (by simp) rfl ?_
  simp
  exact idxI_any p xs
theorem c_idxStrs (xs : List (List UInt8)) (S : List D → (D → Prop) → Prop) (p : (List UInt8) → Bool) (hS : ∀ x ∈ xs, ∀ K : D → Prop, K (.bool (p x)) → S [sD x] K) (hlen : xs.length ≤ 9223372036854775807) :
    DCalls Try.prog 92 [.d (.list (xs.map sD)), .clo S] fun y => y = iD (idxI p xs) := by
  refine dcalls_intro Ty.mixed Try.func92 rfl rfl rfl [] (by kernel_rfl) (by simp) ?_
  simp
  refine LoopVC.at { i : Nat // i ≤ xs.length ∧ ∀ j (h : j < xs.length), j < i → p xs[j] = false } (fun i => [(0, .d (.list (xs.map sD))), (1, .clo S), (7, iA xs.length), (8, iA i.1)]) (fun _ => []) [] (fun i => xs.length - i.1) ⟨0, by simp⟩ (by simp) (by simp) ?_
  rintro ⟨i, hi, hp⟩
  rcases Nat.lt_or_ge i xs.length with h | h
  · simp [h]
    refine hS xs[i] (List.getElem_mem h) _ ?_
    simp
    refine ⟨fun ht => (idxI_found h hp ht).symm, fun hf => ⟨i + 1, .mk (by simp; exact wrap64 (by omega) (by omega)) (by simp), ⟨h, upto_succ hp h hf⟩, by omega⟩⟩
  · simp [Nat.not_lt.2 h]
    exact (idxI_none h hp).symm
theorem c_hasStrs (xs : List (List UInt8)) (S : List D → (D → Prop) → Prop) (p : (List UInt8) → Bool) (hS : ∀ x ∈ xs, ∀ K : D → Prop, K (.bool (p x)) → S [sD x] K) (hlen : xs.length ≤ 9223372036854775807) :
    DCalls Try.prog 83 [.d (.list (xs.map sD)), .clo S] fun y => y = .bool (xs.any p) := by
  refine dcalls_intro Ty.mixed Try.func83 rfl rfl rfl [] (by kernel_rfl) (by simp) ?_
  simp
  refine .dval (c_idxStrs xs S p hS hlen) rfl (by simp) rfl ?_
  simp
  exact idxI_any p xs

theorem c_RwV1 (t n : Int) : DCalls Try.prog 82 [iA t, .dp [iA n]] fun y => y = .bool (!inR t 0 (IntKind.i64.wrap (n - 1))) := by
  refine dcalls_intro Ty.mixed Try.func82 rfl rfl rfl [] (by kernel_rfl) (by simp) ?_
  simp
  refine .dval (c_within _ _ _) rfl (by simp) rfl ?_
  simp
theorem c_RwV2 (s : List UInt8) (h : s.length ≤ 9223372036854775807) : DCalls Try.prog 84 [sA s] fun y => y = .bool (!isOut s) := by
  refine dcalls_intro Ty.mixed Try.func84 rfl rfl rfl [] (by kernel_rfl) (by simp) ?_
  simp
  refine .dval (c_isOut s h) rfl (by simp) rfl ?_
  simp

/-! ### What a rewriter writes -/

set_option maxRecDepth 100000 in
theorem c_rwRun (r : Rw) (f : Int) (s : List UInt8) (h : okRw r = true) (hf : 0 ≤ f ∧ f < r.next.length) (hs : s.all isL = true) (hl : s.length ≤ 1000) :
    TCalls Try.prog 48 [.d r.d, iA f, sA s] fun y => y = [iD (runRw r f s).1, sD (runRw r f s).2] := by
  obtain ⟨n1, n2, n3, n4⟩ := okRw_len h
  refine tcalls_intro Ty.mixed Try.func48 rfl rfl rfl [3] (by kernel_rfl) (by simp) ?_
  simp [Rw.d]
  refine LoopVC.at { i : Nat // i ≤ s.length } (fun i => [(1, iA (runRw r f (s.take i.1)).1), (2, sA s), (3, .dp [.d (.list (r.next.map intsD)), .d (.list (r.out.map ssD)), .d (ssD r.fin)]), (8, sA (runRw r f (s.take i.1)).2), (11, iA s.length), (12, iA i.1)]) (fun _ => []) [] (fun i => s.length - i.1) ⟨0, by simp⟩ (by simp [runRw]) (by simp) ?_
  rintro ⟨i, hi⟩
  have hok := runRw_ok h hf (take_all hs i)
  rcases Nat.lt_or_ge i s.length with h' | h'
  · have hsn := runRw_snoc r f h'
    generalize runRw r f (s.take i) = q at hok hsn
    obtain ⟨q1, q2⟩ := q
    have hb : isL s[i] = true := by rw [List.all_eq_true] at hs; exact hs _ (List.getElem_mem h')
    have hlt := ltr_of hb
    have hk : q1.toNat < r.next.length := by simp only at hok; omega
    obtain ⟨g1, g2, g3, g4, g5⟩ := okRw_row h hk
    have a1 := getD_row (xs := r.next) (i := q1.toNat) [] hk
    have a2 := getD_row (xs := r.out) (i := q1.toNat) [] (by omega)
    have a3 := getD_row (xs := r.next.getD q1.toNat []) (i := (ltr s[i]).toNat) 0 (by omega)
    have a4 := getD_row (xs := r.out.getD q1.toNat []) (i := (ltr s[i]).toNat) [] (by omega)
    have ao := letters_len (g5 _ (List.mem_of_getElem? a4.1))
    unfold stepRw at hsn
    simp only at hok hsn
    generalize r.next.getD q1.toNat [] = nx at *
    generalize r.out.getD q1.toNat [] = ox at *
    generalize nx.getD (ltr s[i]).toNat 0 = nv at *
    generalize ox.getD (ltr s[i]).toNat [] = ov at *
    simp [h']
    refine .one (sch [.pur 0, .pur 1, .pur 2, .pur 3, .pur 4, .pur 5, .pur 6, .pur 7, .eff 8 [0, 1, 2, 3, 4, 5], .pur 9, .pur 10, .pur 11, .eff 12 []]) (by kernel_rfl) ?_
    simp [hok, n3, a1, a2]
    refine .dval (c_letter s i h') rfl (by simp) rfl ?_
    have l2 : (ltr s[i]).toNat < 3 := by omega
    have l3 : ltr s[i] < 3 := by omega
    simp [hok, n3, a1, a2, hlt.2, l3, g1, g2, a3, a4, l2]
    have htl : (s.take i).length ≤ 1000 := by simp; omega
    refine ⟨by omega, ?_⟩
    refine .one (sch [.pur 0, .pur 1, .pur 2, .pur 3, .pur 4, .pur 5, .pur 6, .eff 7 [0, 1, 2, 3, 4], .pur 8, .pur 9, .eff 10 []]) (by kernel_rfl) ?_
    simp [hok, n3, a1, a2]
    refine .dval (c_letter s i h') rfl (by simp) rfl ?_
    simp [hok, n3, a1, a2, hlt.2, l3, g1, g2, a3, a4, l2]
    refine ⟨i + 1, .mk (by simp [hsn]; exact wrap64 (by omega) (by omega)) (by simp), h', by omega⟩
  · have : i = s.length := by omega
    subst this
    simp
set_option maxRecDepth 100000 in
theorem c_l21Run (r : Rw) (f : Int) (s : List UInt8) (h : okRw r = true) (hf : 0 ≤ f ∧ f < r.next.length) (hs : s.all isL = true) (hl : s.length ≤ 1000) :
    TCalls Try.prog 42 [.d r.d, iA f, sA s] fun y => y = [iD (runRw r f s).1, sD (runRw r f s).2] := by
  obtain ⟨n1, n2, n3, n4⟩ := okRw_len h
  refine tcalls_intro Ty.mixed Try.func42 rfl rfl rfl [3] (by kernel_rfl) (by simp) ?_
  simp [Rw.d]
  refine LoopVC.at { i : Nat // i ≤ s.length } (fun i => [(1, iA (runRw r f (s.take i.1)).1), (2, sA s), (3, .dp [.d (.list (r.next.map intsD)), .d (.list (r.out.map ssD)), .d (ssD r.fin)]), (8, sA (runRw r f (s.take i.1)).2), (9, iA i.1)]) (fun _ => []) [] (fun i => s.length - i.1) ⟨0, by simp⟩ (by simp [runRw]) (by simp) ?_
  rintro ⟨i, hi⟩
  have hok := runRw_ok h hf (take_all hs i)
  rcases Nat.lt_or_ge i s.length with h' | h'
  · have hsn := runRw_snoc r f h'
    generalize runRw r f (s.take i) = q at hok hsn
    obtain ⟨q1, q2⟩ := q
    have hb : isL s[i] = true := by rw [List.all_eq_true] at hs; exact hs _ (List.getElem_mem h')
    have hlt := ltr_of hb
    have hk : q1.toNat < r.next.length := by simp only at hok; omega
    obtain ⟨g1, g2, g3, g4, g5⟩ := okRw_row h hk
    have a1 := getD_row (xs := r.next) (i := q1.toNat) [] hk
    have a2 := getD_row (xs := r.out) (i := q1.toNat) [] (by omega)
    have a3 := getD_row (xs := r.next.getD q1.toNat []) (i := (ltr s[i]).toNat) 0 (by omega)
    have a4 := getD_row (xs := r.out.getD q1.toNat []) (i := (ltr s[i]).toNat) [] (by omega)
    have ao := letters_len (g5 _ (List.mem_of_getElem? a4.1))
    unfold stepRw at hsn
    simp only at hok hsn
    generalize r.next.getD q1.toNat [] = nx at *
    generalize r.out.getD q1.toNat [] = ox at *
    generalize nx.getD (ltr s[i]).toNat 0 = nv at *
    generalize ox.getD (ltr s[i]).toNat [] = ov at *
    have l2 : (ltr s[i]).toNat < 3 := by omega
    have l3 : ltr s[i] < 3 := by omega
    have htl : (s.take i).length ≤ 1000 := by simp; omega
    have hsub : IntKind.i64.wrap (IntKind.u8.wrap ((s[i].toNat : Int) - 97)) = ltr s[i] := wrap_ltr _
    simp [h', hsub, hok, n3, a1, a2, hlt.2, l3, g1, g2, a3, a4, l2]
    refine ⟨by omega, ?_⟩
    refine ⟨i + 1, .mk (by simp [hsn]; exact wrap64 (by omega) (by omega)) (by simp), h', by omega⟩
  · have : i = s.length := by omega
    subst this
    simp

/-! ### Validity -/

set_option maxRecDepth 100000 in
theorem c_RewriterValid (r : Rw) (hb : ∀ (xs : List (List UInt8)), xs ∈ r.out → xs.length ≤ 9223372036854775807 ∧ ∀ x ∈ xs, x.length ≤ 9223372036854775807) (hf : ∀ x ∈ r.fin, x.length ≤ 9223372036854775807) (hn : ∀ x ∈ r.next, x.length ≤ 9223372036854775807) (hl : r.next.length ≤ 9223372036854775807) :
    DCalls Try.prog 45 [.d r.d] fun y => y = .bool (okRw r) := by
  refine dcalls_intro Ty.mixed Try.func45 rfl rfl rfl [1] (by kernel_rfl) (by simp) ?_
  simp [Rw.d]
  refine .dval (c_within _ _ _) rfl (by simp) rfl ?_
  simp
  refine ⟨fun h => ?_, fun h1 h2 h3 => ?_⟩
  · cases hh : okRw r with
    | false => rfl
    | true =>
      exfalso
      simp only [okRw, Bool.and_eq_true, decide_eq_true_eq] at hh
      rcases h with (h | h) | h
      · rw [h] at hh; simp at hh
      · exact h (by omega)
      · exact h (by omega)
  have e2 : r.out.length = r.next.length := by omega
  have e3 : r.fin.length = r.next.length := by omega
  have hN : 1 ≤ (r.next.length : Int) ∧ (r.next.length : Int) ≤ 12 := by simpa [inR] using h1
  refine LoopVC.at { i : Nat // i ≤ r.next.length ∧ ∀ k, k < r.next.length → k < i → rowOk r.next.length (r.next.getD k []) (r.out.getD k []) (r.fin.getD k []) = true } (fun i => [(1, .dp [.d (.list (r.next.map intsD)), .d (.list (r.out.map ssD)), .d (ssD r.fin)]), (3, .ptr 300 0), (25, iA r.next.length), (26, iA i.1)]) (fun _ => [(300, .bx [iA r.next.length])]) [300] (fun i => r.next.length - i.1) ⟨0, by simp⟩ (by simp) (by simp) ?_
  rintro ⟨i, hi, hp⟩
  rcases Nat.lt_or_ge i r.next.length with h | h
  · have a1 := getD_row (xs := r.next) (i := i) [] h
    have a2 := getD_row (xs := r.out) (i := i) [] (by omega)
    have a3 := getD_row (xs := r.fin) (i := i) [] (by omega)
    have b1 := hn _ (List.mem_of_getElem? a1.1)
    have b2 := hb _ (List.mem_of_getElem? a2.1)
    have b3 := hf _ (List.mem_of_getElem? a3.1)
    have hfail : rowOk r.next.length (r.next.getD i []) (r.out.getD i []) (r.fin.getD i []) = false → okRw r = false := fun hr => by
      cases hh : okRw r with
      | false => rfl
      | true =>
        exfalso
        simp only [okRw, Bool.and_eq_true, List.all_eq_true, List.mem_range] at hh
        rw [hh.2 i h] at hr; cases hr
    have hnext : rowOk r.next.length (r.next.getD i []) (r.out.getD i []) (r.fin.getD i []) = true → ∀ k, k < r.next.length → k < i + 1 → rowOk r.next.length (r.next.getD k []) (r.out.getD k []) (r.fin.getD k []) = true := fun hr k hk hki => by
      rcases Nat.lt_or_ge k i with h2 | h2
      · exact hp k hk h2
      · have : k = i := by omega
        subst this; exact hr
    generalize r.next.getD i [] = nx at *
    generalize r.out.getD i [] = ox at *
    generalize r.fin.getD i [] = fx at *
    simp [h, e2, e3, a1, a2, a3]
    refine .flat (fun _ => c_isOut fx b3) rfl (by simp) rfl (by simp) ?_
    simp
    refine ⟨fun hbad => hfail ?_, fun c1 c2 c3 => ?_⟩
    · rcases hbad with (hb' | hb') | hb'
      · simp [rowOk, show ¬ nx.length = 3 by omega]
      · simp [rowOk, show ¬ ox.length = 3 by omega]
      · simp [rowOk, hb']
    simp [h, e2, e3, a1, a2, a3]
    refine .dval (c_hasInts nx _ (fun t => !inR t 0 ((r.next.length : Int) - 1)) ?_ b1) rfl (by simp) rfl ?_
    · intro x _ K hK
      rw [← wrap64 (n := (r.next.length : Int) - 1) (by omega) (by omega)] at hK
      exact ⟨_, c_RwV1 x _, by rintro r rfl; rfl, by rintro r rfl; exact hK⟩
    simp [h, e2, e3, a1, a2, a3]
    refine .flat (fun _ => c_hasStrs ox _ (fun o => !isOut o) ?_ b2.1) rfl (by simp) rfl (by simp) ?_
    · intro x hx K hK
      exact ⟨_, c_RwV2 x (b2.2 x hx), by rintro r rfl; rfl, by rintro r rfl; exact hK⟩
    simp
    refine ⟨fun hbad => hfail ?_, fun hA hB => ⟨i + 1, .mk (by simp; exact wrap64 (by omega) (by omega)) (by simp), ⟨h, hnext ?_⟩, by omega⟩⟩
    · rcases hbad with ⟨x, hx, hb'⟩ | ⟨x, hx, hb'⟩
      · have : nx.all (fun t => inR t 0 ((r.next.length : Int) - 1)) = false := by
          rw [List.all_eq_false]; exact ⟨x, hx, by simp [hb']⟩
        simp [rowOk, this]
      · have : ox.all isOut = false := by
          rw [List.all_eq_false]; exact ⟨x, hx, by simp [hb']⟩
        simp [rowOk, this]
    · have t1 : nx.all (fun t => inR t 0 ((r.next.length : Int) - 1)) = true := by rw [List.all_eq_true]; exact hA
      have t2 : ox.all isOut = true := by rw [List.all_eq_true]; exact hB
      simp [rowOk, t1, t2, c3, show nx.length = 3 by omega, show ox.length = 3 by omega]
  · have hall : okRw r = true := by
      simp only [okRw, Bool.and_eq_true, decide_eq_true_eq, List.all_eq_true, List.mem_range]
      exact ⟨⟨⟨by simpa using h1, e2⟩, e3⟩, fun k hk => hp k hk (by omega)⟩
    simp [Nat.not_lt.2 h, hall]

/-- No list in it is too long for a machine's numbers. -/
structure Rw.fine (r : Rw) : Prop where
  out : ∀ (xs : List (List UInt8)), xs ∈ r.out → xs.length ≤ 9223372036854775807 ∧ ∀ x ∈ xs, x.length ≤ 9223372036854775807
  fin : ∀ x ∈ r.fin, x.length ≤ 9223372036854775807
  next : ∀ x ∈ r.next, x.length ≤ 9223372036854775807
  len : r.next.length ≤ 9223372036854775807

set_option maxRecDepth 100000 in
theorem c_sRewriterValid (r : Rw) (h : r.fine) : DCalls Try.prog 41 [.d r.d] fun y => y = .bool (okRw r) := by
  refine dcalls_intro Ty.mixed Try.func41 rfl rfl rfl [1] (by kernel_rfl) (by simp) ?_
  obtain ⟨hb, hf, hn, hl⟩ := h
  simp [Rw.d]
  refine .dval (c_l1In _ _ _) rfl (by simp) rfl ?_
  simp
  refine ⟨fun h => ?_, fun h1 h2 h3 => ?_⟩
  · cases hh : okRw r with
    | false => rfl
    | true =>
      exfalso
      simp only [okRw, Bool.and_eq_true, decide_eq_true_eq] at hh
      rcases h with (h | h) | h
      · rw [h] at hh; simp at hh
      · exact h (by omega)
      · exact h (by omega)
  have e2 : r.out.length = r.next.length := by omega
  have e3 : r.fin.length = r.next.length := by omega
  have hN : 1 ≤ (r.next.length : Int) ∧ (r.next.length : Int) ≤ 12 := by simpa [inR] using h1
  refine LoopVC.at { i : Nat // i ≤ r.next.length ∧ ∀ k, k < r.next.length → k < i → rowOk r.next.length (r.next.getD k []) (r.out.getD k []) (r.fin.getD k []) = true } (fun i => [(1, .dp [.d (.list (r.next.map intsD)), .d (.list (r.out.map ssD)), .d (ssD r.fin)]), (3, iA r.next.length), (4, iA i.1)]) (fun _ => []) [] (fun i => r.next.length - i.1) ⟨0, by simp⟩ (by simp) (by simp) ?_
  rintro ⟨i, hi, hp⟩
  rcases Nat.lt_or_ge i r.next.length with h | h
  · have a1 := getD_row (xs := r.next) (i := i) [] h
    have a2 := getD_row (xs := r.out) (i := i) [] (by omega)
    have a3 := getD_row (xs := r.fin) (i := i) [] (by omega)
    have b1 := hn _ (List.mem_of_getElem? a1.1)
    have b2 := hb _ (List.mem_of_getElem? a2.1)
    have b3 := hf _ (List.mem_of_getElem? a3.1)
    have hfail : rowOk r.next.length (r.next.getD i []) (r.out.getD i []) (r.fin.getD i []) = false → okRw r = false := fun hr => by
      cases hh : okRw r with
      | false => rfl
      | true =>
        exfalso
        simp only [okRw, Bool.and_eq_true, List.all_eq_true, List.mem_range] at hh
        rw [hh.2 i h] at hr; cases hr
    have hnext : rowOk r.next.length (r.next.getD i []) (r.out.getD i []) (r.fin.getD i []) = true → ∀ k, k < r.next.length → k < i + 1 → rowOk r.next.length (r.next.getD k []) (r.out.getD k []) (r.fin.getD k []) = true := fun hr k hk hki => by
      rcases Nat.lt_or_ge k i with h2 | h2
      · exact hp k hk h2
      · have : k = i := by omega
        subst this; exact hr
    generalize r.next.getD i [] = nx at *
    generalize r.out.getD i [] = ox at *
    generalize r.fin.getD i [] = fx at *
    simp [h, e2, e3, a1, a2, a3]
    refine .flat (fun _ => c_l21Text fx 4 b3) rfl (by simp) rfl (by simp) ?_
    simp
    refine ⟨fun hbad => hfail ?_, fun c1 c2 c3 => ?_⟩
    · rcases hbad with (hb' | hb') | hb'
      · simp [rowOk, show ¬ nx.length = 3 by omega]
      · simp [rowOk, show ¬ ox.length = 3 by omega]
      · simp [rowOk, isOut, hb']
    have l1 : nx.length = 3 := by omega
    have l2 : ox.length = 3 := by omega
    refine LoopVC.at { c : Nat // c ≤ 3 ∧ ∀ k, k < 3 → k < c → inR (nx.getD k 0) 0 ((r.next.length : Int) - 1) = true ∧ isOut (ox.getD k []) = true } (fun c => [(1, .dp [.d (.list (r.next.map intsD)), .d (.list (r.out.map ssD)), .d (ssD r.fin)]), (3, iA r.next.length), (4, iA i), (5, iA c.1)]) (fun _ => []) [] (fun c => 3 - c.1) ⟨0, by simp⟩ (by simp) (by simp) ?_
    rintro ⟨c, hc, hcp⟩
    rcases Nat.lt_or_ge c 3 with hc3 | hc3
    · have d1 := getD_row (xs := nx) (i := c) 0 (by omega)
      have d2 := getD_row (xs := ox) (i := c) [] (by omega)
      have b4 := b2.2 _ (List.mem_of_getElem? d2.1)
      have m1 := List.mem_of_getElem? d1.1
      have m2 := List.mem_of_getElem? d2.1
      have hcn : inR (nx.getD c 0) 0 ((r.next.length : Int) - 1) = true ∧ isOut (ox.getD c []) = true → ∀ k, k < 3 → k < c + 1 → inR (nx.getD k 0) 0 ((r.next.length : Int) - 1) = true ∧ isOut (ox.getD k []) = true := fun hr k hk hki => by
        rcases Nat.lt_or_ge k c with h2 | h2
        · exact hcp k hk h2
        · have : k = c := by omega
          subst this; exact hr
      generalize nx.getD c 0 = nv at *
      generalize ox.getD c [] = ov at *
      simp [h, e2, e3, a1, a2, a3, hc3, show (c : Int) < 3 by omega, l1, l2, d1, d2, wrap64 (n := (r.next.length : Int) - 1) (by omega) (by omega)]
      refine .dval (c_l1In _ _ _) rfl (by simp) rfl ?_
      simp [h, e2, e3, a1, a2, a3, hc3, show (c : Int) < 3 by omega, l1, l2, d1, d2]
      refine .flat (fun _ => c_l21Text ov 4 b4) rfl (by simp) rfl (by simp) ?_
      simp
      refine ⟨fun hbad => hfail ?_, fun hA hB => ⟨c + 1, .mk (by simp; exact wrap64 (by omega) (by omega)) (by simp), ⟨hc3, hcn ⟨hA, hB⟩⟩, by omega⟩⟩
      rcases hbad with hb' | hb'
      · have : nx.all (fun t => inR t 0 ((r.next.length : Int) - 1)) = false := by
          rw [List.all_eq_false]; exact ⟨nv, m1, by simp [hb']⟩
        simp [rowOk, this]
      · have : ox.all isOut = false := by
          rw [List.all_eq_false]; exact ⟨ov, m2, by simp [isOut, hb']⟩
        simp [rowOk, this]
    · have hc4 : c = 3 := by omega
      subst hc4
      have all3 : ∀ {α : Type} (xs : List α) (d : α) (p : α → Bool), xs.length = 3 → (∀ k, k < 3 → p (xs.getD k d) = true) → xs.all p = true := by
        intro α xs d p hx hk
        rw [List.all_eq_true]
        intro x hxm
        obtain ⟨j, hj, rfl⟩ := List.mem_iff_getElem.1 hxm
        have := hk j (by omega)
        rwa [← (getD_row d hj).2 hj] at this
      have t1 := all3 nx 0 (fun t => inR t 0 ((r.next.length : Int) - 1)) l1 (fun k hk => (hcp k hk hk).1)
      have t2 := all3 ox [] isOut l2 (fun k hk => (hcp k hk hk).2)
      simp
      refine ⟨i + 1, .mk (by simp; exact wrap64 (by omega) (by omega)) (by simp), ⟨h, hnext ?_⟩, by omega⟩
      simp [rowOk, t1, t2, isOut, c3, l1, l2]
  · have hall : okRw r = true := by
      simp only [okRw, Bool.and_eq_true, decide_eq_true_eq, List.all_eq_true, List.mem_range]
      exact ⟨⟨⟨by simpa using h1, e2⟩, e3⟩, fun k hk => hp k hk (by omega)⟩
    simp [Nat.not_lt.2 h, hall]

end Go.Fw
