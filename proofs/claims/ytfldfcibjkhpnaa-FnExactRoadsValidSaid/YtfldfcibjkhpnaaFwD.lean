/- Operations that read and reckon: they yield what is said of them. -/
import Derived.Test.YtfldfcibjkhpnaaFwC
set_option linter.unusedSimpArgs false
set_option linter.unusedVariables false
namespace Go.Fw
open Go

section
variable {P : Program} {w : World} {ok : Nat → Prop} {loc : Nat → Option (Nat × Nat)}

theorem RepA.inv_int {v : Value} {k : IntKind} {n : Int} (h : RepA P w ok loc v (.d (.int k n))) : v = .int k n := by
  cases h with | d h => cases h; rfl
theorem RepA.inv_bool {v : Value} {b : Bool} (h : RepA P w ok loc v (.d (.bool b))) : v = .bool b := by
  cases h with | d h => cases h; rfl
theorem RepA.inv_str {v : Value} {s : List UInt8} (h : RepA P w ok loc v (.d (.str s))) : v = .string ⟨s.toArray⟩ := by
  cases h with | d h => cases h; rfl
theorem RepA.int (k : IntKind) (n : Int) : RepA P w ok loc (.int k n) (.d (.int k n)) := .d (.int k n)
theorem RepA.bool (b : Bool) : RepA P w ok loc (.bool b) (.d (.bool b)) := .d (.bool b)
theorem RepA.str (s : List UInt8) : RepA P w ok loc (.string ⟨s.toArray⟩) (.d (.str s)) := .d (.str s)

theorem RepA.strip {v : Value} {x : AV} (h : RepA P w ok loc v x) (hs : x.strip.1) : RepA P w ok loc v x.strip.2 := by
  cases h with
  | op h _ => exact h hs
  | unk v => exact .unk v
  | d h => exact .d h
  | nl => exact .nl
  | ptr h => exact .ptr h
  | sl0 b s i o => exact .sl0 b s i o
  | sl h1 h2 h3 h4 h5 => exact .sl h1 h2 h3 h4 h5
  | ep h => exact .ep h
  | dp u h1 h2 h3 h4 => exact .dp u h1 h2 h3 h4
  | ag h1 h2 => exact .ag h1 h2
  | tp h1 h2 => exact .tp h1 h2
  | fv h1 h2 h3 h4 => exact .fv h1 h2 h3 h4
  | clo h => exact .clo h
  | mp h => exact .mp h

theorem allD_get {cs : List AV} {ds : List D} (h : AV.allD cs = some ds) : ds.length = cs.length ∧ ∀ (i : Nat) (y : D), ds[i]? = some y → cs[i]? = some (AV.d y) := by
  induction cs generalizing ds with
  | nil => simp only [AV.allD, Option.some.injEq] at h; subst h; exact ⟨rfl, fun i y hy => by simp at hy⟩
  | cons x r ih =>
    cases x <;> simp only [AV.allD] at h <;> first | (cases h; done) | skip
    simp only [Option.map_eq_some_iff] at h
    obtain ⟨ds', h', rfl⟩ := h
    obtain ⟨i1, i2⟩ := ih h'
    refine ⟨by simp [i1], fun i y hy => ?_⟩
    cases i with
    | zero => simp at hy ⊢; exact hy
    | succ i => simp at hy ⊢; exact i2 i y hy

theorem RepA.mkAg {vs : Array Value} {cs : List AV} (hl : vs.size = cs.length) (h : ∀ (i : Nat) v y, vs[i]? = some v → cs[i]? = some y → RepA P w ok loc v y) :
    RepA P w ok loc (.agg vs) (mkAg cs) := by
  unfold Fw.mkAg
  split
  · rename_i ds hds
    obtain ⟨h1, h2⟩ := allD_get hds
    refine .d (.agg (by omega) fun i v y hv hy => ?_)
    have := h i v _ hv (h2 i y hy)
    cases this with | d h => exact h
  · exact .ag hl h

theorem RepA.ofVal (v : Value) : RepA P w ok loc v (ofVal v) := by
  cases v <;> simp only [Fw.ofVal] <;> try with_reducible exact .unk _
  · exact .bool _
  · exact .int _ _
  · rename_i s; exact RepA.str s.data.toList
  · rename_i a len cap
    split
    · rename_i e; obtain ⟨rfl, rfl, rfl⟩ := e; exact .nl
    · exact .unk _

theorem Addr.add_none (b off n : Nat) : (⟨b, off, none⟩ : Addr).add n = ⟨b, off + n, none⟩ := by
  unfold Addr.add; split
  · rename_i h; subst h; rfl
  · rfl

theorem cell_of_block {b i : Nat} {c : Array Value} {T : TypeId} {fz : Nat × Nat} (h : w.heap[b]? = some (.cells c T fz)) : w.cell? ⟨b, i, none⟩ = c[i]? := by
  simp [World.cell?, h]

theorem s_pick {c a b : AV} {vc va vb : Value} (h : (fPick c a b).1) (hc : RepA P w ok loc vc c) (ha : RepA P w ok loc va a) (hb : RepA P w ok loc vb b) :
    ∃ x, vc = .bool x ∧ RepA P w ok loc (if x then va else vb) (fPick c a b).2 := by
  unfold fPick at h ⊢
  split at h
  · rename_i x
    have hv := hc.inv_bool; subst hv
    refine ⟨x, rfl, ?_⟩
    split at h
    · rename_i p x' q y' e1 e2
      simp only at h
      cases x
      · have := hb.strip (by rw [e2]; exact h.2 rfl)
        rw [e2] at this; have := this.inv_bool; subst this; exact .bool _
      · have := ha.strip (by rw [e1]; exact h.1 rfl)
        rw [e1] at this; have := this.inv_bool; subst this; exact .bool _
    · exact h.elim
  · exact h.elim

theorem run_binOp_int (op : BinOp) (t : TypeId) (k k' : IntKind) (a b : Int) (h : (fBinInt op k a k' b).1) :
    ∃ v, (binOp op t (.int k a) (.int k' b)).run P w = .ok v w ∧ RepA P w ok loc v (fBinInt op k a k' b).2 := by
  cases op <;> simp only [fBinInt] at h ⊢
  case shl =>
    have h' : ¬ b < 0 := by omega
    exact ⟨_, by simp only [binOp, Op.shift, if_neg h']; rfl, .int _ _⟩
  case shr =>
    have h' : ¬ b < 0 := by omega
    exact ⟨_, by simp only [binOp, Op.shift, if_neg h']; rfl, .int _ _⟩
  case quo => obtain ⟨rfl, h⟩ := h; exact ⟨_, by simp only [binOp, Op.intDiv, if_neg h, ne_eq, not_true_eq_false, if_false]; rfl, .int _ _⟩
  case rem => obtain ⟨rfl, h⟩ := h; exact ⟨_, by simp only [binOp, Op.intDiv, if_neg h, ne_eq, not_true_eq_false, if_false]; rfl, .int _ _⟩
  case and => subst h; exact ⟨_, by simp only [binOp, Op.intBits, ne_eq, not_true_eq_false, if_false]; rfl, .int _ _⟩
  case or => subst h; exact ⟨_, by simp only [binOp, Op.intBits, ne_eq, not_true_eq_false, if_false]; rfl, .int _ _⟩
  case xor => subst h; exact ⟨_, by simp only [binOp, Op.intBits, ne_eq, not_true_eq_false, if_false]; rfl, .int _ _⟩
  case andNot => subst h; exact ⟨_, by simp only [binOp, Op.intBits, ne_eq, not_true_eq_false, if_false]; rfl, .int _ _⟩
  case add => subst h; exact ⟨_, by simp only [binOp, Op.intArith, ne_eq, not_true_eq_false, if_false]; rfl, .int _ _⟩
  case sub => subst h; exact ⟨_, by simp only [binOp, Op.intArith, ne_eq, not_true_eq_false, if_false]; rfl, .int _ _⟩
  case mul => subst h; exact ⟨_, by simp only [binOp, Op.intArith, ne_eq, not_true_eq_false, if_false]; rfl, .int _ _⟩
  all_goals (subst h; exact ⟨_, by simp only [binOp, Op.intCmp, ne_eq, not_true_eq_false, if_false]; rfl, .bool _⟩)

theorem toList_mk (s : List UInt8) : (⟨s.toArray⟩ : ByteArray).toList = s := by
  simp

theorem run_binOp_str (op : BinOp) (t : TypeId) (a b : List UInt8) (h : (fBinStr op a b).1) :
    ∃ v, (binOp op t (.string ⟨a.toArray⟩) (.string ⟨b.toArray⟩)).run P w = .ok v w ∧ RepA P w ok loc v (fBinStr op a b).2 := by
  have e : ∀ op, binOp op t (.string ⟨a.toArray⟩) (.string ⟨b.toArray⟩) = Op.stringOp op ⟨a.toArray⟩ ⟨b.toArray⟩ := fun op => by cases op <;> rfl
  rw [e]
  cases op <;> simp only [fBinStr] at h ⊢ <;> first | exact h.elim | skip
  case add =>
    refine ⟨_, run_string_add_sum w _ _ (by simpa [ByteArray.size] using h), ?_⟩
    rw [ByteArray.mk_append_mk]; exact .str _
  all_goals
    refine ⟨_, by simp only [Op.stringOp, toList_mk]; rfl, ?_⟩
    first
      | exact .bool _
      | (refine cast (congrArg (fun b => RepA P w ok loc (.bool b) _) ?_) (RepA.bool _); simp; done)

theorem run_equal_bool {t : TypeId} {a b : Bool} (h : P.underlying t = some .bool) : (Op.equal t (.bool a) (.bool b)).run P w = .ok (a == b) w := by
  unfold Op.equal
  rw [show Op.maxDepth = 9999 + 1 from rfl]
  unfold Op.equalIn
  simp [run_underlying' h]

theorem s_bin {op : BinOp} {t : TypeId} {x y : Operand} {a b : AV} {va vb : Value} (h : (fBin P op t a b).1) (ha : RepA P w ok loc va a) (hb : RepA P w ok loc vb b) :
    ∃ v, (do eqGuard op t x y va vb; binOp op t va vb : Sem Value).run P w = .ok v w ∧ RepA P w ok loc v (fBin P op t a b).2 := by
  unfold fBin at h ⊢
  split at h
  · rename_i k n k' m
    have := ha.inv_int; subst this; have := hb.inv_int; subst this
    obtain ⟨v, hv, hr⟩ := run_binOp_int (P := P) (w := w) (ok := ok) (loc := loc) op t k k' n m h
    refine ⟨v, ?_, hr⟩
    simp only [Sem.run_bind, eqGuard]
    cases op <;> simp [hv]
  · rename_i s u
    have := ha.inv_str; subst this; have := hb.inv_str; subst this
    obtain ⟨v, hv, hr⟩ := run_binOp_str (P := P) (w := w) (ok := ok) (loc := loc) op t s u h
    refine ⟨v, ?_, hr⟩
    simp only [Sem.run_bind, eqGuard]
    cases op <;> simp [hv]
  · rename_i s u
    have := ha.inv_bool; subst this; have := hb.inv_bool; subst this
    have hu : ∀ q : Bool, tBool P t = true → P.underlying t = some .bool := fun _ hq => by
      unfold tBool at hq; split at hq
      · assumption
      · cases hq
    cases op <;> simp only at h ⊢ <;> first | exact h.elim | skip
    · exact ⟨_, by simp [eqGuard, binOp, run_equal_bool (hu true h)], .bool _⟩
    · exact ⟨_, by simp [eqGuard, binOp, run_equal_bool (hu true h)], .bool _⟩
  · exact h.elim

theorem s_un {op : UnOp} {a : AV} {va : Value} (h : (fUn op a).1) (ha : RepA P w ok loc va a) :
    ∃ v, (Op.unary op va).run P w = .ok v w ∧ RepA P w ok loc v (fUn op a).2 := by
  unfold fUn at h ⊢
  split at h
  · have := ha.inv_bool; subst this
    cases op <;> simp only at h ⊢ <;> first | exact h.elim | exact ⟨_, by simp only [Op.unary]; rfl, .bool _⟩
  · have := ha.inv_int; subst this
    cases op <;> simp only at h ⊢ <;> first | exact h.elim | skip
    rename_i k n
    refine ⟨.int k (k.wrap (0 - n)), by simp [Op.unary, Op.intArith], ?_⟩
    rw [Int.zero_sub]; exact .int _ _
  · exact h.elim

theorem s_conv {s t : TypeId} {a : AV} {va : Value} (h : (fConv P s t a).1) (ha : RepA P w ok loc va a) :
    ∃ v, (convert s t va).run P w = .ok v w ∧ RepA P w ok loc v (fConv P s t a).2 := by
  unfold fConv at h ⊢
  split at h
  · have := ha.inv_int; subst this
    split at h
    · rename_i k' hk
      have hu : P.underlying t = some (.int k') := by
        unfold tInt at hk; split at hk
        · simp at hk; subst hk; assumption
        · cases hk
      obtain ⟨us, hus⟩ := Option.isSome_iff_exists.1 h
      exact ⟨.int k' (k'.wrap _), by simp [convert, run_underlying' hu, run_underlying' hus, Conv.intToInt], .int _ _⟩
    · exact h.elim
  · exact h.elim

theorem s_extract {i : Nat} {a : AV} {va : Value} (h : (fExtract i a).1) (ha : RepA P w ok loc va a) :
    ∃ v, (Instr.extract va i).run P w = .ok v w ∧ RepA P w ok loc v (fExtract i a).2 := by
  unfold fExtract at h ⊢
  split at h
  · rename_i cs
    cases ha with
    | @tp vs cs hl hc =>
      split at h
      · rename_i x hx
        have hi : i < vs.size := by
          have := (List.getElem?_eq_some_iff.1 hx).1; omega
        refine ⟨vs[i], by simp [Instr.extract, Array.getElem?_eq_getElem hi], ?_⟩
        exact hc i _ x (Array.getElem?_eq_getElem hi) hx
      · exact h.elim
  · exact h.elim

end
end Go.Fw
