/- Operations that read and reckon: they yield what is said of them. -/
import Derived.Test.YtfiipgebdcbknaaFwC
import Derived.Laws.StructEq
import Derived.ChangeKeysEq
import Derived.Laws.BytesString
set_option linter.unusedSimpArgs false
set_option linter.unusedVariables false
namespace Go.Fw
open Go

section
variable {P : Program} {w : World} {ok : Nat → Prop} {loc : Nat → Option (Nat × Nat)}

theorem RepA.inv_int {v : Value} {k : IntKind} {n : Int} (h : RepA P w ok loc v (.d (.int k n))) : v = .int k n := by
  cases h with | d h => cases h; rfl
theorem RepA.inv_bool {v : Value} {b : Bool} (h : RepA P w ok loc v (.d (.bool b))) : v = .bool b := by
  cases h with | d h => cases h; rfl
theorem RepA.inv_str {v : Value} {s : List UInt8} (h : RepA P w ok loc v (.d (.str s))) : v = .string ⟨s.toArray⟩ := by
  cases h with | d h => cases h; rfl
theorem RepA.int (k : IntKind) (n : Int) : RepA P w ok loc (.int k n) (.d (.int k n)) := .d (.int k n)
theorem RepA.bool (b : Bool) : RepA P w ok loc (.bool b) (.d (.bool b)) := .d (.bool b)
theorem RepA.str (s : List UInt8) : RepA P w ok loc (.string ⟨s.toArray⟩) (.d (.str s)) := .d (.str s)

theorem RepA.strip {v : Value} {x : AV} (h : RepA P w ok loc v x) (hs : x.strip.1) : RepA P w ok loc v x.strip.2 := by
  cases h with
  | op h _ => exact h hs
  | unk v => exact .unk v
  | d h => exact .d h
  | nl => exact .nl
  | ptr h => exact .ptr h
  | sl0 b s i o => exact .sl0 b s i o
  | sl h1 h2 h3 h4 h5 => exact .sl h1 h2 h3 h4 h5
  | ep h => exact .ep h
  | dp u h1 h2 h3 h4 => exact .dp u h1 h2 h3 h4
  | ag h1 h2 => exact .ag h1 h2
  | tp h1 h2 => exact .tp h1 h2
  | fv h1 h2 h3 h4 => exact .fv h1 h2 h3 h4
  | clo h => exact .clo h
  | mp h => exact .mp h

theorem RepA.mkOp {v : Value} {g : Bool} {x : AV} (h : RepA P w ok loc v (.op g x)) : RepA P w ok loc v (Fw.mkOp g x) := by
  unfold Fw.mkOp
  split
  · rename_i g' y
    cases h with | op h1 h2 =>
    cases g
    · exact .op (fun h => by cases h) fun _ => h2 rfl
    · have := h1 rfl
      cases this with | op h3 h4 => exact .op (fun h => h3 h) fun h => h4 h
  · exact h

theorem allD_get {cs : List AV} {ds : List D} (h : AV.allD cs = some ds) : ds.length = cs.length ∧ ∀ (i : Nat) (y : D), ds[i]? = some y → cs[i]? = some (AV.d y) := by
  induction cs generalizing ds with
  | nil => simp only [AV.allD, Option.some.injEq] at h; subst h; exact ⟨rfl, fun i y hy => by simp at hy⟩
  | cons x r ih =>
    cases x <;> simp only [AV.allD] at h <;> first | (cases h; done) | skip
    simp only [Option.map_eq_some_iff] at h
    obtain ⟨ds', h', rfl⟩ := h
    obtain ⟨i1, i2⟩ := ih h'
    refine ⟨by simp [i1], fun i y hy => ?_⟩
    cases i with
    | zero => simp at hy ⊢; exact hy
    | succ i => simp at hy ⊢; exact i2 i y hy

theorem RepA.mkAg {vs : Array Value} {cs : List AV} (hl : vs.size = cs.length) (h : ∀ (i : Nat) v y, vs[i]? = some v → cs[i]? = some y → RepA P w ok loc v y) :
    RepA P w ok loc (.agg vs) (mkAg cs) := by
  unfold Fw.mkAg
  split
  · rename_i ds hds
    obtain ⟨h1, h2⟩ := allD_get hds
    refine .d (.agg (by omega) fun i v y hv hy => ?_)
    have := h i v _ hv (h2 i y hy)
    cases this with | d h => exact h
  · exact .ag hl h

theorem RepA.ofVal (v : Value) : RepA P w ok loc v (ofVal v) := by
  cases v <;> simp only [Fw.ofVal] <;> try with_reducible exact .unk _
  · exact .bool _
  · exact .int _ _
  · rename_i s; exact RepA.str s.data.toList
  · rename_i a len cap
    split
    · rename_i e; obtain ⟨rfl, rfl, rfl⟩ := e; exact .nl
    · exact .unk _

theorem Addr.add_none (b off n : Nat) : (⟨b, off, none⟩ : Addr).add n = ⟨b, off + n, none⟩ := by
  unfold Addr.add; split
  · rename_i h; subst h; rfl
  · rfl

theorem cell_of_block {b i : Nat} {c : Array Value} {T : TypeId} {fz : Nat × Nat} (h : w.heap[b]? = some (.cells c T fz)) : w.cell? ⟨b, i, none⟩ = c[i]? := by
  simp [World.cell?, h]

theorem s_pick {c a b : AV} {vc va vb : Value} (h : (fPick c a b).1) (hc : RepA P w ok loc vc c) (ha : RepA P w ok loc va a) (hb : RepA P w ok loc vb b) :
    ∃ x, vc = .bool x ∧ RepA P w ok loc (if x then va else vb) (fPick c a b).2 := by
  unfold fPick at h ⊢
  split at h
  · rename_i p0 x e0
    unfold fPickC at h ⊢
    have hx : p0 → vc = .bool x := fun hp => by
      have := hc.strip (by rw [e0]; exact hp)
      rw [e0] at this; exact this.inv_bool
    split at h
    · rename_i p x' q y' e1 e2
      simp only at h
      refine ⟨x, hx h.1, ?_⟩
      cases x
      · have := hb.strip (by rw [e2]; exact h.2.2 rfl)
        rw [e2] at this; have := this.inv_bool; subst this; exact .bool _
      · have := ha.strip (by rw [e1]; exact h.2.1 rfl)
        rw [e1] at this; have := this.inv_bool; subst this; exact .bool _
    · cases x
      · exact ⟨false, hx h.1, hb.strip h.2⟩
      · exact ⟨true, hx h.1, ha.strip h.2⟩
  · exact h.elim

theorem run_binOp_int (op : BinOp) (t : TypeId) (k k' : IntKind) (a b : Int) (h : (fBinInt op k a k' b).1) :
    ∃ v, (binOp op t (.int k a) (.int k' b)).run P w = .ok v w ∧ RepA P w ok loc v (fBinInt op k a k' b).2 := by
  cases op <;> simp only [fBinInt] at h ⊢
  case shl =>
    have h' : ¬ b < 0 := by omega
    exact ⟨_, by simp only [binOp, Op.shift, if_neg h']; rfl, .int _ _⟩
  case shr =>
    have h' : ¬ b < 0 := by omega
    exact ⟨_, by simp only [binOp, Op.shift, if_neg h']; rfl, .int _ _⟩
  case quo => obtain ⟨rfl, h⟩ := h; exact ⟨_, by simp only [binOp, Op.intDiv, if_neg h, ne_eq, not_true_eq_false, if_false]; rfl, .int _ _⟩
  case rem => obtain ⟨rfl, h⟩ := h; exact ⟨_, by simp only [binOp, Op.intDiv, if_neg h, ne_eq, not_true_eq_false, if_false]; rfl, .int _ _⟩
  case and => subst h; exact ⟨_, by simp only [binOp, Op.intBits, ne_eq, not_true_eq_false, if_false]; rfl, .int _ _⟩
  case or => subst h; exact ⟨_, by simp only [binOp, Op.intBits, ne_eq, not_true_eq_false, if_false]; rfl, .int _ _⟩
  case xor => subst h; exact ⟨_, by simp only [binOp, Op.intBits, ne_eq, not_true_eq_false, if_false]; rfl, .int _ _⟩
  case andNot => subst h; exact ⟨_, by simp only [binOp, Op.intBits, ne_eq, not_true_eq_false, if_false]; rfl, .int _ _⟩
  case add => subst h; exact ⟨_, by simp only [binOp, Op.intArith, ne_eq, not_true_eq_false, if_false]; rfl, .int _ _⟩
  case sub => subst h; exact ⟨_, by simp only [binOp, Op.intArith, ne_eq, not_true_eq_false, if_false]; rfl, .int _ _⟩
  case mul => subst h; exact ⟨_, by simp only [binOp, Op.intArith, ne_eq, not_true_eq_false, if_false]; rfl, .int _ _⟩
  all_goals (subst h; exact ⟨_, by simp only [binOp, Op.intCmp, ne_eq, not_true_eq_false, if_false]; rfl, .bool _⟩)

theorem toList_mk (s : List UInt8) : (⟨s.toArray⟩ : ByteArray).toList = s := by
  simp

theorem run_binOp_str (op : BinOp) (t : TypeId) (a b : List UInt8) (h : (fBinStr op a b).1) :
    ∃ v, (binOp op t (.string ⟨a.toArray⟩) (.string ⟨b.toArray⟩)).run P w = .ok v w ∧ RepA P w ok loc v (fBinStr op a b).2 := by
  have e : ∀ op, binOp op t (.string ⟨a.toArray⟩) (.string ⟨b.toArray⟩) = Op.stringOp op ⟨a.toArray⟩ ⟨b.toArray⟩ := fun op => by cases op <;> rfl
  rw [e]
  cases op <;> simp only [fBinStr] at h ⊢ <;> first | exact h.elim | skip
  case add =>
    refine ⟨_, run_string_add_sum w _ _ (by simpa [ByteArray.size] using h), ?_⟩
    rw [ByteArray.mk_append_mk]; exact .str _
  all_goals
    refine ⟨_, by simp only [Op.stringOp, toList_mk]; rfl, ?_⟩
    first
      | exact .bool _
      | (refine cast (congrArg (fun b => RepA P w ok loc (.bool b) _) ?_) (RepA.bool _); simp; done)

theorem run_equal_bool {t : TypeId} {a b : Bool} (h : P.underlying t = some .bool) : (Op.equal t (.bool a) (.bool b)).run P w = .ok (a == b) w := by
  unfold Op.equal
  rw [show Op.maxDepth = 9999 + 1 from rfl]
  unfold Op.equalIn
  simp [run_underlying' h]

theorem tInt_und {t : TypeId} {k : IntKind} (h : tInt P t = some k) : P.underlying t = some (.int k) := by
  unfold tInt at h; split at h
  · simp at h; subst h; assumption
  · cases h
theorem plain_int {t : TypeId} {k : IntKind} (h : P.underlying t = some (.int k)) : P.plainKey t = true := by simp [Program.plainKey, h]

theorem run_eqFields_int (d : Nat) (xs ys : Array Value) : ∀ (fs : List Field) (i : Nat) (ks : List IntKind) (as bs : List D), fieldKinds P i fs = some ks → aggOk ks as → aggOk ks bs →
    (∀ (j : Nat) (k : IntKind) (n : Int), as[j]? = some (.int k n) → xs[i + j]? = some (.int k n)) → (∀ (j : Nat) (k : IntKind) (n : Int), bs[j]? = some (.int k n) → ys[i + j]? = some (.int k n)) →
    (Op.eqFields (d + 1) xs ys fs).run P w = .ok (aggEq as bs) w
  | [], i, ks, as, bs, h, ha, hb, _, _ => by
    simp only [fieldKinds, Option.some.injEq] at h; subst h
    cases as with
    | cons _ _ => exact ha.elim
    | nil =>
      cases bs with
      | cons _ _ => exact hb.elim
      | nil => simp [Op.eqFields, aggEq]
  | f :: r, i, ks, as, bs, h, ha, hb, hx, hy => by
    simp only [fieldKinds] at h
    split at h
    · rename_i hf
      simp only [Bool.and_eq_true, bne_iff_ne, beq_iff_eq] at hf
      split at h
      · rename_i k ks' hk hks
        simp only [Option.some.injEq] at h; subst h
        match as, bs, ha, hb, hx, hy with
        | .int k1 n :: as, .int k2 m :: bs, ha', hb', hx, hy =>
          obtain ⟨e1, ha2⟩ := ha'
          obtain ⟨e2, hb2⟩ := hb'
          subst e1; subst e2
          have hu := tInt_und hk
          have h1 := hx 0 _ n rfl
          have h2 := hy 0 _ m rfl
          rw [Nat.add_zero] at h1 h2
          have ih := run_eqFields_int d xs ys r (i + 1) ks' as bs hks ha2 hb2 (fun j k n e => by rw [show i + 1 + j = i + (j + 1) by omega]; exact hx (j + 1) k n e) (fun j k n e => by rw [show i + 1 + j = i + (j + 1) by omega]; exact hy (j + 1) k n e)
          simp only [Op.eqFields, ne_eq, hf.1, not_false_eq_true, if_true, Sem.run_bind, hf.2, run_part_plain w (plain_int hu) h1, run_part_plain w (plain_int hu) h2, Result.andThen_ok, run_equalIn_int w d f.type _ _ n m hu, aggEq]
          cases hnm : (n == m)
          · simp
          · simp [ih]
      · cases h
    · cases h

theorem run_eqItems_int (d : Nat) {e : TypeId} {k : IntKind} (hu : P.underlying e = some (.int k)) (xs ys : Array Value) : ∀ (m i : Nat) (as bs : List D), aggOk (List.replicate m k) as → aggOk (List.replicate m k) bs →
    (∀ (j : Nat) (k : IntKind) (n : Int), as[j]? = some (.int k n) → xs[i + j]? = some (.int k n)) → (∀ (j : Nat) (k : IntKind) (n : Int), bs[j]? = some (.int k n) → ys[i + j]? = some (.int k n)) →
    (Op.eqItems (d + 1) e 1 xs ys (List.range' i m)).run P w = .ok (aggEq as bs) w
  | 0, i, as, bs, ha, hb, _, _ => by
    cases as with
    | cons _ _ => exact ha.elim
    | nil =>
      cases bs with
      | cons _ _ => exact hb.elim
      | nil => simp [Op.eqItems, aggEq]
  | m + 1, i, as, bs, ha, hb, hx, hy => by
    rw [List.replicate_succ] at ha hb
    match as, bs, ha, hb, hx, hy with
    | .int k1 n :: as, .int k2 q :: bs, ha', hb', hx, hy =>
      obtain ⟨e1, ha2⟩ := ha'
      obtain ⟨e2, hb2⟩ := hb'
      subst e1; subst e2
      have h1 := hx 0 _ n rfl
      have h2 := hy 0 _ q rfl
      rw [Nat.add_zero] at h1 h2
      have ih := run_eqItems_int d hu xs ys m (i + 1) as bs ha2 hb2 (fun j k n e => by rw [show i + 1 + j = i + (j + 1) by omega]; exact hx (j + 1) k n e) (fun j k n e => by rw [show i + 1 + j = i + (j + 1) by omega]; exact hy (j + 1) k n e)
      simp only [List.range'_succ, Op.eqItems, Sem.run_bind, Nat.mul_one, run_part_plain w (plain_int hu) h1, run_part_plain w (plain_int hu) h2, Result.andThen_ok, run_equalIn_int w d e _ _ n q hu, aggEq]
      cases hnm : (n == q)
      · simp
      · simp [ih]

/-- Two structs, or arrays, of integers are compared. -/
theorem run_equal_aggs (d : Nat) {t : TypeId} {ks : List IntKind} {xs ys : Array Value} {as bs : List D} (h : tEqS P t = some ks) (ha : aggOk ks as) (hb : aggOk ks bs)
    (hx : ∀ (j : Nat) (k : IntKind) (n : Int), as[j]? = some (.int k n) → xs[j]? = some (.int k n)) (hy : ∀ (j : Nat) (k : IntKind) (n : Int), bs[j]? = some (.int k n) → ys[j]? = some (.int k n)) :
    (Op.equalIn (d + 2) t (.agg xs) (.agg ys)).run P w = .ok (aggEq as bs) w := by
  unfold tEqS at h
  split at h
  · rename_i fs hu
    split at h
    · rename_i hs
      have hfs : P.fieldsOf t = fs := by simp [Program.fieldsOf, hu]
      rw [run_equalIn_struct w (d + 1) t xs ys (by rw [hfs]; exact hu) hs.1, hfs]
      exact run_eqFields_int d xs ys fs.toList 0 ks as bs h ha hb (fun j k n e => by rw [Nat.zero_add]; exact hx j k n e) (fun j k n e => by rw [Nat.zero_add]; exact hy j k n e)
    · cases h
  · rename_i n e hu
    split at h
    · rename_i hs
      simp only [Option.map_eq_some_iff] at h
      obtain ⟨k, hk, rfl⟩ := h
      obtain ⟨i, hi⟩ := Option.isSome_iff_exists.1 hs.2.1
      rw [run_equalIn_array w (d + 1) xs ys hu hi, hs.2.2, List.range_eq_range']
      exact run_eqItems_int d (tInt_und hk) xs ys n 0 as bs ha hb (fun j k n e => by rw [Nat.zero_add]; exact hx j k n e) (fun j k n e => by rw [Nat.zero_add]; exact hy j k n e)
    · cases h
  · cases h

theorem tEqS_guard {t : TypeId} {ks : List IntKind} (h : tEqS P t = some ks) : P.eqGuardType P.depth t = false := by
  unfold tEqS at h
  split at h
  · split at h
    · rename_i hs; exact hs.2
    · cases h
  · split at h
    · rename_i hs; exact hs.1
    · cases h
  · cases h

theorem RepV.agg_get {vs : Array Value} {cs : List D} (h : RepV w ok (.agg vs) (.agg cs)) : ∀ (j : Nat) (k : IntKind) (n : Int), cs[j]? = some (.int k n) → vs[j]? = some (.int k n) := by
  intro j k n hj
  cases h with | agg hl hc =>
  have hlt : j < vs.size := by have := (List.getElem?_eq_some_iff.1 hj).1; omega
  have := hc j vs[j] _ (Array.getElem?_eq_getElem hlt) hj
  rw [Array.getElem?_eq_getElem hlt]
  generalize vs[j] = v at this
  cases this; rfl

theorem s_bin {op : BinOp} {t : TypeId} {x y : Operand} {a b : AV} {va vb : Value} (h : (fBin P op t a b).1) (ha : RepA P w ok loc va a) (hb : RepA P w ok loc vb b) :
    ∃ v, (do eqGuard op t x y va vb; binOp op t va vb : Sem Value).run P w = .ok v w ∧ RepA P w ok loc v (fBin P op t a b).2 := by
  unfold fBin at h ⊢
  split at h
  · rename_i k n k' m
    have := ha.inv_int; subst this; have := hb.inv_int; subst this
    obtain ⟨v, hv, hr⟩ := run_binOp_int (P := P) (w := w) (ok := ok) (loc := loc) op t k k' n m h
    refine ⟨v, ?_, hr⟩
    simp only [Sem.run_bind, eqGuard]
    cases op <;> simp [hv]
  · rename_i s u
    have := ha.inv_str; subst this; have := hb.inv_str; subst this
    obtain ⟨v, hv, hr⟩ := run_binOp_str (P := P) (w := w) (ok := ok) (loc := loc) op t s u h
    refine ⟨v, ?_, hr⟩
    simp only [Sem.run_bind, eqGuard]
    cases op <;> simp [hv]
  · rename_i s u
    have := ha.inv_bool; subst this; have := hb.inv_bool; subst this
    have hu : ∀ q : Bool, tBool P t = true → P.underlying t = some .bool := fun _ hq => by
      unfold tBool at hq; split at hq
      · assumption
      · cases hq
    cases op <;> simp only at h ⊢ <;> first | exact h.elim | skip
    · exact ⟨_, by simp [eqGuard, binOp, run_equal_bool (hu true h)], .bool _⟩
    · exact ⟨_, by simp [eqGuard, binOp, run_equal_bool (hu true h)], .bool _⟩
  · rename_i as bs
    unfold fAggEq at h ⊢
    split at h
    · rename_i ks hks
      have hg := tEqS_guard hks
      cases ha with | d ha =>
      cases hb with | d hb =>
      obtain ⟨xs, rfl⟩ : ∃ xs, va = .agg xs := by cases ha; exact ⟨_, rfl⟩
      obtain ⟨ys, rfl⟩ : ∃ ys, vb = .agg ys := by cases hb; exact ⟨_, rfl⟩
      have key := fun (p : aggOk ks as) (q : aggOk ks bs) => run_equal_aggs (w := w) 9998 hks p q ha.agg_get hb.agg_get
      cases op <;> simp only at h ⊢ <;> first | exact h.elim | skip
      · exact ⟨_, by simp only [Sem.run_bind, run_eqGuard_agg w .eql t x y _ _ hg, run_eql_struct, key h.1 h.2, Result.andThen_ok], .bool _⟩
      · exact ⟨_, by simp only [Sem.run_bind, run_eqGuard_agg w .neq t x y _ _ hg, run_neq_struct, key h.1 h.2, Result.andThen_ok], .bool _⟩
    · exact h.elim
  · exact h.elim

theorem s_un {op : UnOp} {a : AV} {va : Value} (h : (fUn op a).1) (ha : RepA P w ok loc va a) :
    ∃ v, (Op.unary op va).run P w = .ok v w ∧ RepA P w ok loc v (fUn op a).2 := by
  unfold fUn at h ⊢
  split at h
  · have := ha.inv_bool; subst this
    cases op <;> simp only at h ⊢ <;> first | exact h.elim | exact ⟨_, by simp only [Op.unary]; rfl, .bool _⟩
  · have := ha.inv_int; subst this
    cases op <;> simp only at h ⊢ <;> first | exact h.elim | skip
    rename_i k n
    refine ⟨.int k (k.wrap (0 - n)), by simp [Op.unary, Op.intArith], ?_⟩
    rw [Int.zero_sub]; exact .int _ _
  · exact h.elim

theorem s_conv {s t : TypeId} {a : AV} {va : Value} (h : (fConv P s t a).1) (ha : RepA P w ok loc va a) :
    ∃ v, (convert s t va).run P w = .ok v w ∧ RepA P w ok loc v (fConv P s t a).2 := by
  unfold fConv at h ⊢
  split at h
  · have := ha.inv_int; subst this
    split at h
    · rename_i k' hk
      have hu : P.underlying t = some (.int k') := by
        unfold tInt at hk; split at hk
        · simp at hk; subst hk; assumption
        · cases hk
      obtain ⟨us, hus⟩ := Option.isSome_iff_exists.1 h
      exact ⟨.int k' (k'.wrap _), by simp [convert, run_underlying' hu, run_underlying' hus, Conv.intToInt], .int _ _⟩
    · exact h.elim
  · exact h.elim

theorem s_extract {i : Nat} {a : AV} {va : Value} (h : (fExtract i a).1) (ha : RepA P w ok loc va a) :
    ∃ v, (Instr.extract va i).run P w = .ok v w ∧ RepA P w ok loc v (fExtract i a).2 := by
  unfold fExtract at h ⊢
  split at h
  · rename_i cs
    cases ha with
    | @tp vs cs hl hc =>
      split at h
      · rename_i x hx
        have hi : i < vs.size := by
          have := (List.getElem?_eq_some_iff.1 hx).1; omega
        refine ⟨vs[i], by simp [Instr.extract, Array.getElem?_eq_getElem hi], ?_⟩
        exact hc i _ x (Array.getElem?_eq_getElem hi) hx
      · exact h.elim
  · exact h.elim

end
end Go.Fw
