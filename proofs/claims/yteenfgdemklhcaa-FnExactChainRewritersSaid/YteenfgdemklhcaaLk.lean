/- Rewriters: what is drawn; the one that copies. -/
import Derived.Test.YteenfgdemklhcaaLj
import Derived.Test.YteenfgdemklhcaaLc
set_option linter.unusedSimpArgs false
set_option linter.unusedVariables false
namespace Go.Fw
open Go Go.Proofs

/-! ### The copying rewriter -/

def copyRw : Rw := ⟨[[0, 0, 0]], [[[97], [98], [99]]], [[]]⟩
theorem copyRw_ok : okRw copyRw = true := by decide
theorem copyRw_fine : copyRw.fine where
  out := by decide
  fin := by decide
  next := by decide
  len := by decide

theorem isL_cases {b : UInt8} (h : isL b = true) : b = 97 ∨ b = 98 ∨ b = 99 := by
  simp [isL, inR] at h
  have : b.toNat = 97 ∨ b.toNat = 98 ∨ b.toNat = 99 := by omega
  rcases this with h | h | h
  · exact .inl (UInt8.toNat_inj.1 h)
  · exact .inr (.inl (UInt8.toNat_inj.1 h))
  · exact .inr (.inr (UInt8.toNat_inj.1 h))

theorem copyRw_run {s : List UInt8} (h : s.all isL = true) : runRw copyRw 0 s = (0, s) := by
  induction s using snocInd with
  | nil => rfl
  | snoc s b ih =>
    simp only [List.all_append, List.all_cons, List.all_nil, Bool.and_true, Bool.and_eq_true] at h
    have e : runRw copyRw 0 (s ++ [b]) = stepRw copyRw (runRw copyRw 0 s) b := by unfold runRw; rw [List.foldl_append]; rfl
    rw [e, ih h.1]
    rcases isL_cases h.2 with rfl | rfl | rfl <;> rfl
theorem copyRw_text {s : List UInt8} (h : textOk s = true) : rewrite copyRw s = s := by
  have ha : s.all isL = true := by simp [textOk, lettersOk] at h; simpa using h.1
  unfold rewrite
  rw [copyRw_ok, h, copyRw_run ha]
  simp [copyRw]

/-! ### What is drawn -/

theorem drew_rw (code : List UInt8) {p q : Int} (h1 : p ≤ q) (h2 : q ≤ p + 200) (r : Rw) (hr : r.small) {a b c : List D} (ha : a = r.next.map intsD) (hb : b = r.out.map ssD) (hc : c = r.fin.map sD) :
    ∃ b', [AV.d (D.list (codeD code)), AV.d (iD q)] = List.map AV.d b' ∧ Drew code p 200 (fun r' => ∃ r : Rw, r' = .one r.d ∧ r.small) (RV.one (D.agg [D.list a, D.list b, D.list c])) b' :=
  ⟨rdB (codeD code) q, rfl, q, rfl, h1, h2, r, by subst ha hb hc; rfl, hr⟩

/-- What is drawn of a rewriter: so many states. -/
structure RwUp (k : Nat) (r : Rw) : Prop where
  n : r.next.length = k
  o : r.out.length = k
  f : r.fin.length = k
  nr : ∀ x ∈ r.next, x.length ≤ 3
  orow : ∀ (xs : List (List UInt8)), xs ∈ r.out → xs.length ≤ 3 ∧ ∀ x ∈ xs, x.length ≤ 31
  ft : ∀ x ∈ r.fin, x.length ≤ 31
theorem RwUp.small {k : Nat} {r : Rw} (h : RwUp k r) (hk : k ≤ 3) : r.small where
  next := by have := h.n; omega
  row := fun x hx => by have := h.nr x hx; omega
  out := by have := h.o; omega
  orow := fun x hx => ⟨by have := (h.orow x hx).1; omega, fun y hy => by have := (h.orow x hx).2 y hy; omega⟩
  fin := by have := h.f; omega
  ftext := fun x hx => by have := h.ft x hx; omega
theorem RwUp.snoc {k : Nat} {a : List (List Int)} {b : List (List (List UInt8))} {c : List (List UInt8)} (h : RwUp k ⟨a, b, c⟩) {x : List Int} {y : List (List UInt8)} {z : List UInt8} (hx : x.length = 3) (hy : y.length = 3 ∧ ∀ s ∈ y, s.length ≤ 2) (hz : z.length ≤ 2) : RwUp (k + 1) ⟨a ++ [x], b ++ [y], c ++ [z]⟩ where
  n := by have := h.n; simp_all
  o := by have := h.o; simp_all
  f := by have := h.f; simp_all
  nr := fun v hv => by
    rcases List.mem_append.1 hv with hv | hv
    · exact h.nr v hv
    · rw [List.mem_singleton.1 hv]; omega
  orow := fun v hv => by
    rcases List.mem_append.1 hv with hv | hv
    · exact h.orow v hv
    · rw [List.mem_singleton.1 hv]; exact ⟨by omega, fun s hs => by have := hy.2 s hs; omega⟩
  ft := fun v hv => by
    rcases List.mem_append.1 hv with hv | hv
    · exact h.ft v hv
    · rw [List.mem_singleton.1 hv]; omega
theorem Rw.small.tail {a b c} (h : Rw.small ⟨a, b, c⟩) : Rw.small ⟨a, b, c.tail⟩ where
  next := h.next
  row := h.row
  out := h.out
  orow := h.orow
  fin := by have := h.fin; simp at this ⊢; omega
  ftext := fun x hx => h.ftext x (List.mem_of_mem_tail hx)
theorem Rw.small.setF {a b c} (h : Rw.small ⟨a, b, c⟩) (v : List UInt8) (hv : v.length ≤ 31) : Rw.small ⟨a, b, c.set 0 v⟩ where
  next := h.next
  row := h.row
  out := h.out
  orow := h.orow
  fin := by have := h.fin; simpa using this
  ftext := fun x hx => by
    rcases List.mem_or_eq_of_mem_set hx with hx | rfl
    · exact h.ftext x hx
    · omega
theorem Rw.small.setN {a b c} (h : Rw.small ⟨a, b, c⟩) (v : List Int) (hv : v.length ≤ 31) : Rw.small ⟨a.set 0 v, b, c⟩ where
  next := by have := h.next; simpa using this
  row := fun x hx => by
    rcases List.mem_or_eq_of_mem_set hx with hx | rfl
    · exact h.row x hx
    · omega
  out := h.out
  orow := h.orow
  fin := h.fin
  ftext := h.ftext
theorem Rw.small.setO {a b c} (h : Rw.small ⟨a, b, c⟩) (v : List (List UInt8)) (hv : v.length ≤ 31) (hw : ∀ x ∈ v, x.length ≤ 31) : Rw.small ⟨a, b.set 0 v, c⟩ where
  next := h.next
  row := h.row
  out := by have := h.out; simpa using this
  orow := fun x hx => by
    rcases List.mem_or_eq_of_mem_set hx with hx | rfl
    · exact h.orow x hx
    · exact ⟨by omega, fun y hy => by have := hw y hy; omega⟩
  fin := h.fin
  ftext := h.ftext
theorem take_set_all {α β : Type} (f : α → β) (xs : List α) (v : α) : List.take xs.length ((xs.map f).set 0 (f v)) = (xs.set 0 v).map f := by
  rw [List.take_of_length_le (by simp), List.map_set]

theorem codeD_len2 (code : List UInt8) : (codeD code).length = code.length := by simp [codeD]

end Go.Fw
