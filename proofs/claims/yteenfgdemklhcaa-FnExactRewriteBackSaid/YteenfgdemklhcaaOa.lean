/- Expressions as trees: what a valid list of parts is. -/
import Derived.Test.YteenfgdemklhcaaLv
set_option linter.unusedSimpArgs false
set_option linter.unusedVariables false
namespace Go.Fw
open Go Go.Proofs
set_option linter.unusedSectionVars false

structure Pt where
  k : Int
  l : Int
deriving DecidableEq
def Pt.d (p : Pt) : D := .agg [iD p.k, iD p.l]
abbrev ptsD (e : List Pt) : D := .list (e.map Pt.d)

def okPt (p : Pt) : Bool := inR p.k 1 8 && ((decide (p.k = 3) && inR p.l 0 2) || (!decide (p.k = 3) && decide (p.l = 0)))
def needs (p : Pt) : Int := if okPt p then (if p.k = 1 ∨ p.k = 2 ∨ p.k = 3 then 0 else if p.k = 7 ∨ p.k = 8 then 1 else 2) else -1
theorem needs_bd (p : Pt) : -1 ≤ needs p ∧ needs p ≤ 2 := by unfold needs; split <;> (try split) <;> (try split) <;> omega
theorem needs_nn {p : Pt} : 0 ≤ needs p ↔ okPt p = true := by
  unfold needs; split
  · rename_i h; simp only [h, iff_true]; split
    · omega
    · split <;> omega
  · rename_i h; simp [h]

/-- How many expressions are there, after so many parts? -/
def stepX (d : Option Int) (p : Pt) : Option Int := d.bind fun d => if needs p < 0 ∨ d < needs p then none else some (d - needs p + 1)
def exD (e : List Pt) : Option Int := e.foldl stepX (some 0)
def okEx (e : List Pt) : Bool := decide (exD e = some 1) && decide ((e.length : Int) ≤ 60)
theorem stepX_none (e : List Pt) : e.foldl stepX none = none := by induction e with
  | nil => rfl
  | cons p e ih => exact ih
theorem exD_snoc (e : List Pt) (p : Pt) : exD (e ++ [p]) = stepX (exD e) p := by unfold exD; rw [List.foldl_append]; rfl

inductive Tr where
  | leaf (p : Pt)
  | un (p : Pt) (a : Tr)
  | bin (p : Pt) (a b : Tr)
def Tr.parts : Tr → List Pt
  | .leaf p => [p]
  | .un p a => a.parts ++ [p]
  | .bin p a b => a.parts ++ b.parts ++ [p]
def Tr.ok : Tr → Prop
  | .leaf p => needs p = 0
  | .un p a => needs p = 1 ∧ a.ok
  | .bin p a b => needs p = 2 ∧ a.ok ∧ b.ok
theorem Tr.pos : ∀ t : Tr, 0 < t.parts.length
  | .leaf p => by simp [Tr.parts]
  | .un p a => by simp [Tr.parts]
  | .bin p a b => by simp [Tr.parts]; omega

/-- A stack of expressions, the last one on top. -/
def flatT (ts : List Tr) : List Pt := ts.flatMap Tr.parts
theorem flatT_app (a b : List Tr) : flatT (a ++ b) = flatT a ++ flatT b := by simp [flatT]

theorem exD_stack (e : List Pt) : ∀ d, exD e = some d → ∃ ts : List Tr, (ts.length : Int) = d ∧ flatT ts = e ∧ ∀ t ∈ ts, t.ok := by
  induction e using snocInd with
  | nil => intro d h; simp [exD] at h; exact ⟨[], by simpa using h, rfl, by simp⟩
  | snoc e p ih =>
    intro d h
    rw [exD_snoc] at h
    cases he : exD e with
    | none => rw [he] at h; simp [stepX] at h
    | some d0 =>
      rw [he] at h
      obtain ⟨ts, h1, h2, h3⟩ := ih d0 he
      simp only [stepX, Option.bind_some] at h
      split at h
      · cases h
      · rename_i hn
        simp only [Option.some.injEq] at h
        have hb := needs_bd p
        have hcase : needs p = 0 ∨ needs p = 1 ∨ needs p = 2 := by omega
        rcases hcase with hp | hp | hp
        · refine ⟨ts ++ [.leaf p], by simp; omega, by rw [flatT_app, h2]; rfl, fun t ht => ?_⟩
          simp at ht
          rcases ht with ht | rfl
          · exact h3 t ht
          · exact hp
        · rcases List.eq_nil_or_concat ts with rfl | ⟨us, a, rfl⟩
          · simp at h1; omega
          · rw [List.concat_eq_append] at *
            refine ⟨us ++ [.un p a], by simp at h1 ⊢; omega, ?_, fun t ht => ?_⟩
            · rw [flatT_app] at h2 ⊢
              rw [← h2]; simp [flatT, Tr.parts]
            · simp at ht
              rcases ht with ht | rfl
              · exact h3 t (by simp [ht])
              · exact ⟨hp, h3 a (by simp)⟩
        · rcases List.eq_nil_or_concat ts with rfl | ⟨us, b, rfl⟩
          · simp at h1; omega
          · rw [List.concat_eq_append] at *
            rcases List.eq_nil_or_concat us with rfl | ⟨vs, a, rfl⟩
            · simp at h1; omega
            · rw [List.concat_eq_append] at *
              refine ⟨vs ++ [.bin p a b], by simp at h1 ⊢; omega, ?_, fun t ht => ?_⟩
              · rw [flatT_app] at h2 ⊢
                rw [← h2]; simp [flatT, Tr.parts]
              · simp at ht
                rcases ht with ht | rfl
                · exact h3 t (by simp [ht])
                · exact ⟨hp, h3 a (by simp), h3 b (by simp)⟩
theorem okEx_tree {e : List Pt} (h : okEx e = true) : ∃ t : Tr, t.parts = e ∧ t.ok ∧ e.length ≤ 60 := by
  simp only [okEx, Bool.and_eq_true, decide_eq_true_eq] at h
  obtain ⟨ts, h1, h2, h3⟩ := exD_stack e 1 h.1
  match ts, h1, h2, h3 with
  | [t], _, h2, h3 => exact ⟨t, by simpa [flatT] using h2, h3 t (by simp), by omega⟩
  | [], h1, _, _ => simp at h1
  | _ :: _ :: _, h1, _, _ => simp at h1; omega

/-- What a piece needs from before it, less one for each part. -/
def wt (e : List Pt) : Int := (e.map fun p => needs p - 1).sum
theorem wt_app (a b : List Pt) : wt (a ++ b) = wt a + wt b := by simp [wt]
theorem wt_cons (p : Pt) (b : List Pt) : wt (p :: b) = needs p - 1 + wt b := by simp [wt]
theorem Tr.wt_is : ∀ t : Tr, t.ok → wt t.parts = -1
  | .leaf p, h => by have : needs p = 0 := h; simp [Tr.parts, wt, this]
  | .un p a, h => by
    obtain ⟨h1, h2⟩ := h
    simp only [Tr.parts, wt_app, Tr.wt_is a h2]; simp [wt, h1]
  | .bin p a b, h => by
    obtain ⟨h1, h2, h3⟩ := h
    simp only [Tr.parts, wt_app, Tr.wt_is a h2, Tr.wt_is b h3]; simp [wt, h1]
/-- Behind its beginning an expression is open. -/
theorem Tr.wt_drop : ∀ (t : Tr), t.ok → ∀ i, 0 < i → 0 ≤ wt (t.parts.drop i)
  | .leaf p, _, i, hi => by
    have : (Tr.leaf p).parts.drop i = [] := List.drop_of_length_le (by simp [Tr.parts]; omega)
    rw [this]; simp [wt]
  | .un p a, h, i, hi => by
    obtain ⟨h1, h2⟩ := h
    simp only [Tr.parts, List.drop_append]
    rw [wt_app]
    have := Tr.wt_drop a h2 i hi
    have h3 : 0 ≤ wt ([p].drop (i - a.parts.length)) := by
      rcases Nat.lt_or_ge 0 (i - a.parts.length) with h | h
      · rw [List.drop_of_length_le (by simp; omega)]; simp [wt]
      · rw [show i - a.parts.length = 0 by omega]; simp [wt, h1]
    omega
  | .bin p a b, h, i, hi => by
    obtain ⟨h1, h2, h3⟩ := h
    simp only [Tr.parts, List.append_assoc, List.drop_append]
    rw [wt_app, wt_app]
    have ha := Tr.wt_drop a h2 i hi
    have hb := Tr.wt_is b h3
    rcases Nat.lt_or_ge 0 (i - a.parts.length) with h | h
    · have hb' := Tr.wt_drop b h3 _ h
      have h4 : 0 ≤ wt ([p].drop (i - a.parts.length - b.parts.length)) := by
        rcases Nat.lt_or_ge 0 (i - a.parts.length - b.parts.length) with h | h
        · rw [List.drop_of_length_le (by simp; omega)]; simp [wt]
        · rw [show i - a.parts.length - b.parts.length = 0 by omega]; simp [wt, h1]
      omega
    · rw [show i - a.parts.length = 0 by omega]
      simp [wt_app] at *
      have hp := Tr.pos b
      have : wt [p] = 1 := by simp [wt, h1]
      simp [hb, this]
      omega
theorem Tr.needs_nn : ∀ (t : Tr), t.ok → ∀ p ∈ t.parts, 0 ≤ needs p
  | .leaf p, h, q, hq => by
    have : needs p = 0 := h
    simp [Tr.parts] at hq; subst hq; omega
  | .un p a, h, q, hq => by
    obtain ⟨h1, h2⟩ := h
    simp [Tr.parts] at hq
    rcases hq with hq | rfl
    · exact Tr.needs_nn a h2 q hq
    · omega
  | .bin p a b, h, q, hq => by
    obtain ⟨h1, h2, h3⟩ := h
    simp [Tr.parts] at hq
    rcases hq with hq | hq | rfl
    · exact Tr.needs_nn a h2 q hq
    · exact Tr.needs_nn b h3 q hq
    · omega
end Go.Fw
