/- What an operation does to the abstract state. -/
import Derived.Test.YtfiipgebdcbknaaFwL
set_option linter.unusedSimpArgs false
set_option linter.unusedVariables false
namespace Go.Fw
open Go

def AS.opd (σ : AS) : Operand → AV
  | .tmp t => σ.sl t
  | .const v => ofVal v
  | .global _ => .unk
  | .func f => .fv (.func f) [] []

def st1 (f : AV → PA) (x : AV) : PA := (x.strip.1 ∧ (f x.strip.2).1, (f x.strip.2).2)
def st2 (f : AV → AV → PA) (x y : AV) : PA := (x.strip.1 ∧ y.strip.1 ∧ (f x.strip.2 y.strip.2).1, (f x.strip.2 y.strip.2).2)
def stO : Option AV → Prop × Option AV
  | none => (True, none)
  | some x => (x.strip.1, some x.strip.2)

def fMax : AV → AV → PA
  | .d (.int k a), .d (.int k' b) => (k = k', .d (.int k (max a b)))
  | _, _ => (False, .unk)
/-- A slice of bytes as a string. -/
def fConvB (P : Program) (s t : TypeId) (q : Option (Prop × List D)) : PA :=
  match q with
  | some (p, ys) => (p ∧ tByteSl P s = true ∧ tStr P t = true ∧ ys.all D.isU8 = true, .d (.str (ys.map D.u8)))
  | none => (False, .unk)
def fConvX (P : Program) (hp : HP) (s t : TypeId) : AV → PA
  | .d (.int k n) => fConv P s t (.d (.int k n))
  | .d (.list ys) => fConvB P s t (srcOf hp (.d (.list ys)))
  | .nl => fConvB P s t (srcOf hp .nl)
  | .sl sz id off len => fConvB P s t (srcOf hp (.sl sz id off len))
  | _ => (False, .unk)
def fMin : AV → AV → PA
  | .d (.int k a), .d (.int k' b) => (k = k', .d (.int k (min a b)))
  | _, _ => (False, .unk)

/-- Where a part of a struct or array literal lies, and how many cells it has. -/
def placeOf (P : Program) (t : TypeId) (i : Nat) : Option (Nat × Nat) :=
  match P.underlying t with
  | some (.struct fs) => match fs[i]? with
    | some fl => match P.info? fl.type with
      | some ti => some (fl.offset, ti.size)
      | none => none
    | none => none
  | some (.array _ e) => match P.info? e with
    | some ti => some (i * ti.size, ti.size)
    | none => none
  | _ => none
/-- All its fields have sizes. -/
def fieldsOk (P : Program) (t : TypeId) : Bool :=
  match P.underlying t with
  | some (.struct fs) => fs.all fun f => (P.info? f.type).isSome
  | some (.array _ e) => (P.info? e).isSome
  | _ => false

def fBuildGo (P : Program) (t : TypeId) : List (Nat × AV) → List AV → PA
  | [], cs => (True, mkAg cs)
  | (i, x) :: r, cs => match placeOf P t i, cellsA x.strip.2 with
    | some (off, sz), some ys => ((x.strip.1 ∧ ys.length = sz ∧ off + sz ≤ cs.length) ∧ (fBuildGo P t r (setCells off ys cs)).1, (fBuildGo P t r (setCells off ys cs)).2)
    | _, _ => (False, .unk)
def fBuild (P : Program) (t : TypeId) (parts : List (Nat × AV)) : PA :=
  match tI P t with
  | some (true, _, z) => (fieldsOk P t = true ∧ (fBuildGo P t parts (z.map ofVal)).1, (fBuildGo P t parts (z.map ofVal)).2)
  | _ => (False, .unk)

/-- Built-in functions that only yield a value. -/
def fCall (P : Program) (σ : AS) : Callee → List Operand → List TypeId → Option PA
  | .builtin .len, [x], [t] => some (st1 (fLen P t) (σ.opd x))
  | .builtin .min, [x, y], _ => some (st2 fMin (σ.opd x) (σ.opd y))
  | .builtin .max, [x, y], _ => some (st2 fMax (σ.opd x) (σ.opd y))
  | _, _, _ => none

/-- The operations that only yield a value. -/
def fval (P : Program) (σ : AS) : Op → Option PA
  | .move x => some (True, σ.opd x)
  | .assign x => some (True, σ.opd x)
  | .pick c a b => some (fPick (σ.opd c) (σ.opd a) (σ.opd b))
  | .binOp op t x y _ => some (st2 (fBin P op t) (σ.opd x) (σ.opd y))
  | .unOp op _ x => some (st1 (fUn op) (σ.opd x))
  | .convert s t x => some (st1 (fConvX P σ.hp s t) (σ.opd x))
  | .load t x => some (st1 (fLoad P t σ.hp) (σ.opd x))
  | .fieldAddr t x f => some (st1 (fField P t f) (σ.opd x))
  | .indexAddr t x i => some (st2 (fIdx P t) (σ.opd x) (σ.opd i))
  | .index t x i => some (st2 (fIndex P t) (σ.opd x) (σ.opd i))
  | .slice t x lo hi none => some ((σ.opd x).strip.1 ∧ (stO (lo.map σ.opd)).1 ∧ (stO (hi.map σ.opd)).1 ∧ (fSlice P t (σ.opd x).strip.2 (stO (lo.map σ.opd)).2 (stO (hi.map σ.opd)).2).1,
      (fSlice P t (σ.opd x).strip.2 (stO (lo.map σ.opd)).2 (stO (hi.map σ.opd)).2).2)
  | .extract x i => some (st1 (fExtract i) (σ.opd x))
  | .nilCheck x => some (st1 fNil (σ.opd x))
  | .makeFunc fn first caps => some (True, .fv fn (first.toList.map σ.opd) (caps.toList.map σ.opd))
  | .build t parts => some (fBuild P t (parts.toList.map fun p => (p.1, σ.opd p.2)))
  | .call cl => fCall P σ cl.callee cl.args.toList cl.argTypes.toList
  | _ => none

section
variable {P : Program} {c : Ctx} {σ : AS} {ρ : Nat → Value} {w : World} {vs : List Value} {xs : List AV} {loc : Nat → Option (Nat × Nat)}

/-- A frame's operands. -/
def evalR (ρ : Nat → Value) : Operand → Value
  | .tmp t => ρ t
  | .const v => v
  | .global g => .pointer (some ⟨g, 0, none⟩)
  | .func f => .func (.func f) #[] #[]

theorem RepL.opd (h : RepL P c σ ρ w vs xs loc) (x : Operand) : RepA P w (okOf c w σ.hp loc) loc (evalR ρ x) (σ.opd x) := by
  cases x with
  | tmp t => exact h.slots t
  | const v => exact .ofVal v
  | global g => exact .unk _
  | func f => exact .fv rfl rfl (fun i v y hv => by simp at hv) (fun i v y hv => by simp at hv)

def D.iv : D → Int
  | .int _ n => n
  | _ => 0
theorem foldl_push8 : ∀ (ys : List D) (acc : List UInt8), (ys.map D.iv).foldl (fun (r : ByteArray) (n : Int) => r.push (UInt8.ofNat n.toNat)) ⟨acc.toArray⟩ = ⟨(acc ++ ys.map D.u8).toArray⟩
  | [], acc => by simp
  | y :: r, acc => by
    rw [List.map_cons, List.foldl_cons]
    have : ∀ b : UInt8, (⟨acc.toArray⟩ : ByteArray).push b = ⟨(acc ++ [b]).toArray⟩ := fun b => by simp [ByteArray.push]
    rw [this, foldl_push8 r]
    cases y <;> simp [D.iv, D.u8]

theorem RepL.convB (h : RepL P c σ ρ w vs xs loc) {s t : TypeId} {x : AV} {v : Value} (hc : (fConvB P s t (srcOf σ.hp x)).1) (hx : RepA P w (okOf c w σ.hp loc) loc v x) :
    ∃ u, (convert s t v).run P w = .ok u w ∧ RepA P w (okOf c w σ.hp loc) loc u (fConvB P s t (srcOf σ.hp x)).2 := by
  unfold fConvB at hc ⊢
  split at hc
  · rename_i p ys hsrc
    obtain ⟨hp, hs, ht, hu⟩ := hc
    have hall : ∀ y ∈ ys, ∃ n, y = .int .u8 n := fun y hy => by
      have := List.all_eq_true.1 hu y hy
      unfold D.isU8 at this
      split at this
      · exact ⟨_, rfl⟩
      · cases this
    have hfit : ∀ y ∈ ys, y.fits 1 := fun y hy => by obtain ⟨n, rfl⟩ := hall y hy; exact ⟨rfl, fun z hz => by simp [D.cells] at hz; subst hz; rfl⟩
    obtain ⟨hlo, g, hg, hr⟩ := src_cells h hsrc hp hx 1 hfit
    replace hg := hg _ (Nat.le_refl _)
    have hsl : ∃ a l cp, v = .slice a l cp := by
      unfold srcOf at hsrc
      split at hsrc
      · cases hx with | d hx => cases hx <;> exact ⟨_, _, _, rfl⟩
      · cases hx; exact ⟨_, _, _, rfl⟩
      · cases hx <;> exact ⟨_, _, _, rfl⟩
      · cases hsrc
    obtain ⟨a, l, cp, rfl⟩ := hsl
    have hlen : l = ys.length := by
      simp only [Builtin.lenOf, Sem.run_pure, Result.ok.injEq, and_true] at hlo
      omega
    have hbs : P.underlying t = some .string := by
      unfold tStr at ht; split at ht
      · assumption
      · cases ht
    obtain ⟨e, he1, he2⟩ : ∃ e, P.underlying s = some (.slice e) ∧ P.underlying e = some (.int .u8) := by
      unfold tByteSl at hs
      split at hs
      · rename_i e he
        split at hs
        · rename_i hk; exact ⟨e, he, tInt_und hk⟩
        · cases hs
      · cases hs
    have hcells : ((List.range (ys.length * 1)).map g) = (ys.map D.iv).map (Value.int .u8) := by
      refine List.ext_getElem (by simp) fun i h1 h2 => ?_
      simp only [List.length_map, List.length_range, Nat.mul_one] at h1
      obtain ⟨n, hn⟩ := hall ys[i] (List.getElem_mem h1)
      have := hr i 0 ys[i] (.int .u8 n) (List.getElem?_eq_getElem h1) (by rw [hn]; rfl)
      simp only [Nat.mul_one, Nat.add_zero] at this
      simp only [List.getElem_map, List.getElem_range, hn, D.iv]
      generalize g i = v at this
      cases this; rfl
    rw [run_convert_bytes_string w s t e a l cp he1 he2 hbs]
    rw [hcells] at hg
    have hstr : (⟨(ys.map D.u8).toArray⟩ : ByteArray) = (ys.map D.iv).foldl (fun (r : ByteArray) (n : Int) => r.push (UInt8.ofNat n.toNat)) ByteArray.empty := by
      have := foldl_push8 ys []
      rw [List.nil_append] at this
      exact this.symm
    refine ⟨.string ⟨(ys.map D.u8).toArray⟩, ?_, .str _⟩
    cases a with
    | some a =>
      simp only [Builtin.firstCells, Nat.mul_one] at hg
      rw [← hlen] at hg
      rw [run_bytesToString w a l cp _ hg, hstr]
    | none =>
      simp only [Builtin.firstCells, Sem.run_pure, Result.ok.injEq, and_true] at hg
      have : ys = [] := by
        have := congrArg Array.size hg
        simp at this
        exact List.eq_nil_of_length_eq_zero this.symm
      subst this
      simp [Conv.bytesToString]
      rfl
  · exact hc.elim

theorem RepL.load (h : RepL P c σ ρ w vs xs loc) {t : TypeId} {x : AV} {v : Value} (hc : (fLoad P t σ.hp x).1) (hx : RepA P w (okOf c w σ.hp loc) loc v x) :
    ∃ u, (Instr.loadAt t v).run P w = .ok u w ∧ RepA P w (okOf c w σ.hp loc) loc u (fLoad P t σ.hp x).2 := by
  have run : ∀ a, (Instr.loadAt t (.pointer (some a))).run P w = (loadVar t a).run P w := fun a => by simp [Instr.loadAt, Instr.sureAddr]
  unfold fLoad at hc ⊢
  split at hc
  · rename_i id off
    split at hc
    · rename_i cs a n z hh ht
      cases hx with | @ptr _ _ b δ hl =>
      cases h.heap id _ hh with | @bx b' cur T _ hl' hb hz hcs =>
      rw [hl] at hl'; simp only [Option.some.injEq, Prod.mk.injEq] at hl'; obtain ⟨rfl, rfl⟩ := hl'
      rw [run]
      refine run_loadVar ht hb (fun j y hy => ?_) hc
      rw [List.getElem?_drop] at hy
      have hlt : off + j < cs.length := (List.getElem?_eq_some_iff.1 hy).1
      refine ⟨cur[off + j]'(by omega), by rw [Nat.zero_add]; exact Array.getElem?_eq_getElem _, hcs _ _ y (Array.getElem?_eq_getElem _) hy⟩
    · exact hc.elim
  · rename_i cs
    split at hc
    · rename_i a n z ht
      cases hx with | @dp b o cur T fz _ u h1 h2 h3 h4 =>
      rw [run]
      exact run_loadVar ht h2 (fun j y hy => ⟨u j, h3 j y hy, h4 j y hy⟩) hc
    · exact hc.elim
  · rename_i sz id i off
    split at hc
    · rename_i sz' ys a n z hh ht
      obtain ⟨⟨hi, rfl⟩, hc⟩ := hc
      cases hx with | @ep _ _ _ _ b δ hl =>
      cases h.heap id _ hh with
      | ar0 _ _ => simp at hi
      | @ar b' δ' cur T _ _ us hl' hb hz hs hcc hu =>
        rw [hl] at hl'; simp only [Option.some.injEq, Prod.mk.injEq] at hl'; obtain ⟨rfl, rfl⟩ := hl'
        rw [run]
        have hget : ys[i]? = some (ys.getD i D.dflt) := by simp [List.getD, List.getElem?_eq_getElem hi]
        refine run_loadVar ht hb (fun j y hy => ?_) hc
        simp only [List.getElem?_map, Option.map_eq_some_iff] at hy
        obtain ⟨y', hy', rfl⟩ := hy
        rw [List.getElem?_drop] at hy'
        refine ⟨us i (off + j), ?_, .d (hu _ _ _ _ hget hy')⟩
        rw [show δ + i * sz + off + j = δ + i * sz + (off + j) by omega]
        exact hcc _ _ _ _ hget hy'
    · exact hc.elim
  · exact hc.elim

theorem fill_build {place : Nat → Option (Nat × Nat)} {t : TypeId} {ok : Nat → Prop} (hp : ∀ i q, placeOf P t i = some q → place i = some q) : ∀ (parts : List (Nat × AV)) (vals : List (Nat × Value)) (cs : List AV) (cells : Array Value),
    vals.length = parts.length → (∀ (k : Nat) p q, vals[k]? = some p → parts[k]? = some q → p.1 = q.1 ∧ RepA P w ok loc p.2 q.2) →
    cells.size = cs.length → (∀ (i : Nat) u y, cells[i]? = some u → cs[i]? = some y → RepA P w ok loc u y) → (fBuildGo P t parts cs).1 →
    ∃ cells', Instr.fill place cells vals = some cells' ∧ RepA P w ok loc (.agg cells') (fBuildGo P t parts cs).2
  | [], [], cs, cells, _, _, hl, hc, _ => ⟨cells, rfl, .mkAg hl hc⟩
  | (i, x) :: r, (i', v) :: r', cs, cells, hlen, hv, hl, hc, h => by
    simp only [fBuildGo] at h ⊢
    obtain ⟨rfl, hx⟩ := hv 0 _ _ rfl rfl
    split at h
    · rename_i off sz ys hpl hca
      obtain ⟨⟨h0, rfl, h2⟩, h3⟩ := h
      obtain ⟨e1, e2⟩ := cellsA_rep (hx.strip h0) hca
      replace e1 : v.cells.size = ys.length := e1
      have hsp : off + v.cells.toList.length ≤ cells.size := by simp; omega
      have hfold : v.cells.zipIdx.foldl (fun cs (p : Value × Nat) => cs.setIfInBounds (off + p.2) p.1) cells = splice cells off v.cells.toList := by
        have gen : ∀ (l : List Value) (s : Nat) (cs : Array Value), off + s + l.length ≤ cs.size →
            (l.zipIdx s).foldl (fun cs (p : Value × Nat) => cs.setIfInBounds (off + p.2) p.1) cs = splice cs (off + s) l := by
          intro l
          induction l with
          | nil => intro s cs _; simp [splice]
          | cons x l ih =>
            intro s cs hcs
            simp only [List.length_cons] at hcs
            rw [List.zipIdx_cons, List.foldl_cons, ih (s + 1) _ (by simp; omega)]
            apply Array.ext_getElem?
            intro q
            rw [splice_get (by simp; omega), splice_get (by simp; omega)]
            simp only [List.length_cons]
            by_cases h1 : off + (s + 1) ≤ q ∧ q < off + (s + 1) + l.length
            · rw [if_pos h1, if_pos (by omega), show q - (off + s) = (q - (off + (s + 1))) + 1 by omega, List.getElem?_cons_succ]
            · rw [if_neg h1]
              by_cases h2 : q = off + s
              · subst h2
                rw [if_pos (by omega), Nat.sub_self, List.getElem?_cons_zero, Array.getElem?_setIfInBounds_self_of_lt (by omega)]
              · rw [if_neg (by omega), Array.getElem?_setIfInBounds_ne (Ne.symm h2)]
        have := gen v.cells.toList 0 cells (by simpa using hsp)
        simp only [Nat.add_zero] at this
        rw [← this, ← Array.foldl_toList, Array.toList_zipIdx]
      obtain ⟨cells', f1, f2⟩ := fill_build hp r r' (setCells off ys cs) (splice cells off v.cells.toList) (by simpa using hlen) (fun k p q h1 h2 => hv (k + 1) p q (by simpa using h1) (by simpa using h2))
        (by rw [splice_size hsp, setCells_length, hl]) (fun j u y hu hy => by
          rw [splice_get hsp] at hu
          rw [setCells_get ys off cs h2] at hy
          by_cases hj : off ≤ j ∧ j < off + ys.length
          · rw [if_pos hj] at hy
            rw [if_pos (by simp; omega), Array.getElem?_toList] at hu
            exact e2 _ _ _ hu hy
          · rw [if_neg hj] at hy
            rw [if_neg (by simp; omega)] at hu
            exact hc _ _ _ hu hy) h3
      refine ⟨cells', ?_, f2⟩
      simp only [Instr.fill, hp _ _ hpl]
      rw [if_neg (by simp; omega)]
      rw [← f1]; congr 1
    · exact h.elim
  | [], _ :: _, _, _, hlen, _, _, _, _ => by simp at hlen
  | _ :: _, [], _, _, hlen, _, _, _, _ => by simp at hlen

theorem s_build {t : TypeId} {ok : Nat → Prop} {parts : List (Nat × AV)} {vals : List (Nat × Value)} (hl : vals.length = parts.length)
    (hv : ∀ (k : Nat) p q, vals[k]? = some p → parts[k]? = some q → p.1 = q.1 ∧ RepA P w ok loc p.2 q.2) (h : (fBuild P t parts).1) :
    ∃ u, (Instr.build t vals.toArray).run P w = .ok u w ∧ RepA P w ok loc u (fBuild P t parts).2 := by
  unfold fBuild at h ⊢
  split at h
  · rename_i n z ht
    obtain ⟨hf, h⟩ := h
    obtain ⟨_, _, zv, hz, hzl⟩ := tI_runs (w := w) ht
    have hbase : zv.cells.size = (z.map ofVal).length ∧ ∀ (i : Nat) u y, zv.cells[i]? = some u → (z.map ofVal)[i]? = some y → RepA P w ok loc u y := by
      refine ⟨by simp [← hzl], fun i u y hu hy => ?_⟩
      rw [← hzl, List.getElem?_map, Array.getElem?_toList, hu] at hy
      simp only [Option.map_some, Option.some.injEq] at hy; subst hy; exact .ofVal u
    unfold fieldsOk at hf
    split at hf
    · rename_i fs hu
      have hsz : ∀ (l : List Field), (∀ f ∈ l, (P.info? f.type).isSome = true) → (l.mapM (m := Sem) fun f => do pure (f.offset, ← sizeOf f.type)).run P w = .ok (l.map fun f => (f.offset, ((P.info? f.type).map (·.size)).getD 0)) w := by
        intro l
        induction l with
        | nil => intro _; rfl
        | cons f l ih =>
          intro hl
          obtain ⟨i, hi⟩ := Option.isSome_iff_exists.1 (hl f (by simp))
          simp only [List.mapM_cons, Sem.run_bind, run_sizeOf' hi, Result.andThen_ok, Sem.run_pure, ih fun f hf => hl f (by simp [hf]), List.map_cons, hi, Option.map_some, Option.getD_some]
      have hplaces : (fs.mapM (m := Sem) fun f => do pure (f.offset, ← sizeOf f.type)).run P w = .ok (fs.toList.map fun f => (f.offset, ((P.info? f.type).map (·.size)).getD 0)).toArray w := by
        rw [Array.mapM_eq_mapM_toList, Sem.run_map, hsz fs.toList fun f hf' => by
          rw [Array.all_eq_true'] at hf; exact hf f (by simpa using hf')]
        rfl
      obtain ⟨cells', f1, f2⟩ := fill_build (P := P) (w := w) (loc := loc) (ok := ok) (t := t) (place := fun i => (fs.toList.map fun f => (f.offset, ((P.info? f.type).map (·.size)).getD 0)).toArray[i]?) (fun i q hq => by
        simp only [placeOf, hu] at hq
        split at hq
        · rename_i fl hfl
          split at hq
          · rename_i ti hti
            simp only [Option.some.injEq] at hq; subst hq
            simp [hfl, hti]
          · cases hq
        · cases hq) parts vals (z.map ofVal) zv.cells hl hv hbase.1 hbase.2 h
      refine ⟨.agg cells', ?_, f2⟩
      simp only [Instr.build, Sem.run_bind, hz, Result.andThen_ok, run_underlying' hu, hplaces, f1, Sem.run_pure]
    · rename_i len e hu
      obtain ⟨ti, hti⟩ := Option.isSome_iff_exists.1 hf
      obtain ⟨cells', f1, f2⟩ := fill_build (P := P) (w := w) (loc := loc) (ok := ok) (t := t) (place := fun i => some (i * ti.size, ti.size)) (fun i q hq => by
        simp only [placeOf, hu, hti, Option.some.injEq] at hq; rw [hq]) parts vals (z.map ofVal) zv.cells hl hv hbase.1 hbase.2 h
      refine ⟨.agg cells', ?_, f2⟩
      simp only [Instr.build, Sem.run_bind, hz, Result.andThen_ok, run_underlying' hu, run_sizeOf' hti, f1, Sem.run_pure]
    · cases hf
  · exact h.elim

end
end Go.Fw
