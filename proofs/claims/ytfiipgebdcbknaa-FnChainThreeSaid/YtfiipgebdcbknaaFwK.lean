/- Contracts of functions, and what a call of one does to the caller's state. -/
import Derived.Test.YtfiipgebdcbknaaFwZ
set_option linter.unusedSimpArgs false
set_option linter.unusedVariables false
namespace Go.Fw
open Go

mutual
def AV.ren (g : Nat → Nat) : AV → AV
  | .ptr id off => .ptr (g id) off
  | .sl sz id off len => .sl sz (g id) off len
  | .ep sz id i off => .ep sz (g id) i off
  | .mp id => .mp (g id)
  | .dp cs => .dp (AV.renL g cs)
  | .ag cs => .ag (AV.renL g cs)
  | .tp cs => .tp (AV.renL g cs)
  | .fv fn a b => .fv fn (AV.renL g a) (AV.renL g b)
  | .op b x => .op b (x.ren g)
  | .d x => .d x
  | .nl => .nl
  | .unk => .unk
  | .clo S => .clo S
def AV.renL (g : Nat → Nat) : List AV → List AV
  | [] => []
  | x :: r => x.ren g :: AV.renL g r
end

mutual
/-- All numbers that 'p' names are struck. -/
def AV.kp (p : Nat → Bool) : AV → AV
  | .ptr id off => if p id = true then .unk else .ptr id off
  | .sl sz id off len => if p id = true then .unk else .sl sz id off len
  | .ep sz id i off => if p id = true then .unk else .ep sz id i off
  | .mp id => if p id = true then .unk else .mp id
  | .dp cs => .dp (AV.kpL p cs)
  | .ag cs => .ag (AV.kpL p cs)
  | .tp cs => .tp (AV.kpL p cs)
  | .fv fn a b => .fv fn (AV.kpL p a) (AV.kpL p b)
  | .op b x => .op b (x.kp p)
  | .d x => .d x
  | .nl => .nl
  | .unk => .unk
  | .clo S => .clo S
def AV.kpL (p : Nat → Bool) : List AV → List AV
  | [] => []
  | x :: r => x.kp p :: AV.kpL p r
end

theorem AV.renL_eq (g : Nat → Nat) : ∀ l, AV.renL g l = l.map (AV.ren g)
  | [] => rfl
  | x :: r => by simp [AV.renL, AV.renL_eq g r]
theorem AV.kpL_eq (p : Nat → Bool) : ∀ l, AV.kpL p l = l.map (AV.kp p)
  | [] => rfl
  | x :: r => by simp [AV.kpL, AV.kpL_eq p r]

def Blk.ren (g : Nat → Nat) : Blk → Blk
  | .bx cs => .bx (AV.renL g cs)
  | b => b
def Blk.kp (p : Nat → Bool) : Blk → Blk
  | .bx cs => .bx (AV.kpL p cs)
  | b => b

def AV.flat1 : AV → Bool
  | .d y => y.flat
  | .nl | .ptr _ _ | .sl _ _ _ _ | .ep _ _ _ _ | .mp _ | .unk => true
  | _ => false
def AV.flat2 : AV → Bool
  | .ag cs => cs.all AV.flat1
  | x => x.flat1
def AV.flatR : AV → Bool
  | .tp cs => cs.all AV.flat2
  | x => x.flat2
def Blk.flatR : Blk → Bool
  | .bx cs => cs.all AV.flat1
  | .ar _ xs => xs.all D.flat
  | .mb es => es.all fun p => p.1.flat && p.2.flat

section
variable {P : Program} {w w' : World} {ok ok' : Nat → Prop} {loc loc' : Nat → Option (Nat × Nat)}

theorem RepA.ren {v : Value} {x : AV} (h : RepA P w ok loc v x) (g : Nat → Nat) (hg : ∀ id q, loc id = some q → loc' (g id) = some q) : RepA P w ok loc' v (x.ren g) := by
  induction h with
  | unk v => exact .unk v
  | d h => exact .d h
  | nl => exact .nl
  | ptr h => exact .ptr (hg _ _ h)
  | sl0 base sz id off => exact .sl0 _ _ _ _
  | sl h hh hcap hlen hm => exact .sl (hg _ _ h) hh hcap hlen hm
  | ep h => exact .ep (hg _ _ h)
  | dp u ho hh hc _ ih =>
    simp only [AV.ren, AV.renL_eq]
    refine .dp u ho hh (fun j y hy => ?_) (fun j y hy => ?_)
    · simp only [List.getElem?_map, Option.map_eq_some_iff] at hy; obtain ⟨y', hy', rfl⟩ := hy; exact hc j y' hy'
    · simp only [List.getElem?_map, Option.map_eq_some_iff] at hy; obtain ⟨y', hy', rfl⟩ := hy; exact ih j y' hy'
  | ag hs' _ ih =>
    simp only [AV.ren, AV.renL_eq]
    refine .ag (by simpa using hs') (fun i v y hv hy => ?_)
    simp only [List.getElem?_map, Option.map_eq_some_iff] at hy; obtain ⟨y', hy', rfl⟩ := hy; exact ih i v y' hv hy'
  | tp hs' _ ih =>
    simp only [AV.ren, AV.renL_eq]
    refine .tp (by simpa using hs') (fun i v y hv hy => ?_)
    simp only [List.getElem?_map, Option.map_eq_some_iff] at hy; obtain ⟨y', hy', rfl⟩ := hy; exact ih i v y' hv hy'
  | fv h1 h2 _ _ ih1 ih2 =>
    simp only [AV.ren, AV.renL_eq]
    refine .fv (by simpa using h1) (by simpa using h2) (fun i v y hv hy => ?_) (fun i v y hv hy => ?_)
    · simp only [List.getElem?_map, Option.map_eq_some_iff] at hy; obtain ⟨y', hy', rfl⟩ := hy; exact ih1 i v y' hv hy'
    · simp only [List.getElem?_map, Option.map_eq_some_iff] at hy; obtain ⟨y', hy', rfl⟩ := hy; exact ih2 i v y' hv hy'
  | clo h => exact .clo h
  | mp h => exact .mp (hg _ _ h)
  | op _ h0 ih => exact .op ih h0

/-- Back from renamed numbers. -/
theorem RepA.unren {v : Value} {y : AV} (h : RepA P w ok loc v y) (g : Nat → Nat) : ∀ x : AV, y = x.ren g → RepA P w ok (fun q => loc (g q)) v x := by
  induction h with
  | unk v => intro x hx; cases x <;> simp [AV.ren] at hx; exact .unk v
  | d h => intro x hx; cases x <;> simp [AV.ren] at hx; subst hx; exact .d h
  | nl => intro x hx; cases x <;> simp [AV.ren] at hx; exact .nl
  | ptr h => intro x hx; cases x <;> simp [AV.ren] at hx; obtain ⟨rfl, rfl⟩ := hx; exact .ptr h
  | sl0 base sz id off => intro x hx; cases x <;> simp [AV.ren] at hx; obtain ⟨rfl, rfl, rfl, rfl⟩ := hx; exact .sl0 _ _ _ _
  | sl h hh hcap hlen hm => intro x hx; cases x <;> simp [AV.ren] at hx; obtain ⟨rfl, rfl, rfl, rfl⟩ := hx; exact .sl h hh hcap hlen hm
  | ep h => intro x hx; cases x <;> simp [AV.ren] at hx; obtain ⟨rfl, rfl, rfl, rfl⟩ := hx; exact .ep h
  | dp u ho hh hc _ ih =>
    intro x hx; cases x <;> simp [AV.ren, AV.renL_eq] at hx; subst hx
    exact .dp u ho hh (fun j y hy => hc j (y.ren g) (by simp [hy])) (fun j y hy => ih j (y.ren g) (by simp [hy]) y rfl)
  | ag hs' _ ih =>
    intro x hx; cases x <;> simp [AV.ren, AV.renL_eq] at hx; subst hx
    exact .ag (by simpa using hs') (fun i v y hv hy => ih i v (y.ren g) hv (by simp [hy]) y rfl)
  | tp hs' _ ih =>
    intro x hx; cases x <;> simp [AV.ren, AV.renL_eq] at hx; subst hx
    exact .tp (by simpa using hs') (fun i v y hv hy => ih i v (y.ren g) hv (by simp [hy]) y rfl)
  | fv h1 h2 _ _ ih1 ih2 =>
    intro x hx; cases x <;> simp [AV.ren, AV.renL_eq] at hx; obtain ⟨rfl, rfl, rfl⟩ := hx
    exact .fv (by simpa using h1) (by simpa using h2) (fun i v y hv hy => ih1 i v (y.ren g) hv (by simp [hy]) y rfl) (fun i v y hv hy => ih2 i v (y.ren g) hv (by simp [hy]) y rfl)
  | clo h => intro x hx; cases x <;> simp [AV.ren] at hx; subst hx; exact .clo h
  | mp h => intro x hx; cases x <;> simp [AV.ren] at hx; subst hx; exact .mp h
  | op _ h0 ih => intro x hx; cases x <;> simp [AV.ren] at hx; obtain ⟨rfl, rfl⟩ := hx; exact .op (fun hb => ih hb _ rfl) h0

theorem RepA.mono_kp {v : Value} {x : AV} (h : RepA P w ok loc v x) (hk : ∀ b, ok b → ok' b ∧ w'.heap[b]? = w.heap[b]?) (hs : Shapes w w')
    (p : Nat → Bool) (hl : ∀ id, p id = false → loc' id = loc id) : RepA P w' ok' loc' v (x.kp p) := by
  have hne : ∀ id, ¬ p id = true → p id = false := fun id h => by simpa using h
  induction h with
  | unk v => exact .unk v
  | d h => exact .d (h.mono hk)
  | nl => exact .nl
  | ptr h =>
    simp only [AV.kp]; split
    · exact .unk _
    · rename_i hp; exact .ptr ((hl _ (hne _ hp)).trans h)
  | sl0 base sz id off =>
    simp only [AV.kp]; split
    · exact .unk _
    · exact .sl0 _ _ _ _
  | sl h hh hcap hlen hm =>
    simp only [AV.kp]; split
    · exact .unk _
    · rename_i hp
      obtain ⟨c', T', fz', hc', he⟩ := hs _ _ _ _ hh
      exact .sl ((hl _ (hne _ hp)).trans h) hc' (by rw [he]; exact hcap) hlen hm
  | ep h =>
    simp only [AV.kp]; split
    · exact .unk _
    · rename_i hp; exact .ep ((hl _ (hne _ hp)).trans h)
  | dp u ho hh hc _ ih =>
    simp only [AV.kp, AV.kpL_eq]
    refine .dp u (hk _ ho).1 ((hk _ ho).2.trans hh) (fun j y hy => ?_) (fun j y hy => ?_)
    · simp only [List.getElem?_map, Option.map_eq_some_iff] at hy; obtain ⟨y', hy', rfl⟩ := hy; exact hc j y' hy'
    · simp only [List.getElem?_map, Option.map_eq_some_iff] at hy; obtain ⟨y', hy', rfl⟩ := hy; exact ih j y' hy'
  | ag hs' _ ih =>
    simp only [AV.kp, AV.kpL_eq]
    refine .ag (by simpa using hs') (fun i v y hv hy => ?_)
    simp only [List.getElem?_map, Option.map_eq_some_iff] at hy; obtain ⟨y', hy', rfl⟩ := hy; exact ih i v y' hv hy'
  | tp hs' _ ih =>
    simp only [AV.kp, AV.kpL_eq]
    refine .tp (by simpa using hs') (fun i v y hv hy => ?_)
    simp only [List.getElem?_map, Option.map_eq_some_iff] at hy; obtain ⟨y', hy', rfl⟩ := hy; exact ih i v y' hv hy'
  | fv h1 h2 _ _ ih1 ih2 =>
    simp only [AV.kp, AV.kpL_eq]
    refine .fv (by simpa using h1) (by simpa using h2) (fun i v y hv hy => ?_) (fun i v y hv hy => ?_)
    · simp only [List.getElem?_map, Option.map_eq_some_iff] at hy; obtain ⟨y', hy', rfl⟩ := hy; exact ih1 i v y' hv hy'
    · simp only [List.getElem?_map, Option.map_eq_some_iff] at hy; obtain ⟨y', hy', rfl⟩ := hy; exact ih2 i v y' hv hy'
  | clo h => exact .clo (h.mono hk)
  | mp h =>
    simp only [AV.kp]; split
    · exact .unk _
    · rename_i hp; exact .mp ((hl _ (hne _ hp)).trans h)
  | op _ h0 ih => exact .op ih h0

theorem RepA.flat1 {v : Value} {x : AV} (h : RepA P w ok loc v x) (hf : x.flat1 = true) : RepA P w ok' loc v x := by
  cases h with
  | unk v => exact .unk v
  | d h => exact .d (h.of_flat hf)
  | nl => exact .nl
  | ptr h => exact .ptr h
  | sl0 base sz id off => exact .sl0 _ _ _ _
  | sl h hh hcap hlen hm => exact .sl h hh hcap hlen hm
  | ep h => exact .ep h
  | mp h => exact .mp h
  | _ => simp [AV.flat1] at hf

theorem RepA.flat2 {v : Value} {x : AV} (h : RepA P w ok loc v x) (hf : x.flat2 = true) : RepA P w ok' loc v x := by
  by_cases hx : ∃ cs, x = .ag cs
  · obtain ⟨cs, rfl⟩ := hx
    cases h with | ag h1 h2 =>
    exact .ag h1 fun i v y hv hy => (h2 i v y hv hy).flat1 (List.all_eq_true.1 (by simpa [AV.flat2] using hf) y (List.mem_of_getElem? hy))
  · refine h.flat1 ?_
    cases x <;> first | exact hf | (exact absurd ⟨_, rfl⟩ hx)

theorem RepA.flatR {v : Value} {x : AV} (h : RepA P w ok loc v x) (hf : x.flatR = true) : RepA P w ok' loc v x := by
  by_cases hx : ∃ cs, x = .tp cs
  · obtain ⟨cs, rfl⟩ := hx
    cases h with | tp h1 h2 =>
    exact .tp h1 fun i v y hv hy => (h2 i v y hv hy).flat2 (List.all_eq_true.1 (by simpa [AV.flatR] using hf) y (List.mem_of_getElem? hy))
  · refine h.flat2 ?_
    cases x <;> first | exact hf | (exact absurd ⟨_, rfl⟩ hx)

theorem RepB.flatR {id : Nat} {blk : Blk} (h : RepB P w ok loc id blk) (hf : blk.flatR = true) : RepB P w ok' loc id blk := by
  cases h with
  | bx h1 h2 h3 h4 => exact .bx h1 h2 h3 fun i v y hv hy => (h4 i v y hv hy).flat1 (List.all_eq_true.1 hf y (List.mem_of_getElem? hy))
  | ar0 sz h => exact .ar0 sz h
  | ar us h1 h2 h3 h4 h5 h6 =>
    refine .ar us h1 h2 h3 h4 h5 fun i j x y hx hy => ?_
    have hfx : x.flat = true := List.all_eq_true.1 hf x (List.mem_of_getElem? hx)
    refine (h6 i j x y hx hy).of_one ?_
    cases x with
    | agg cs => exact List.all_eq_true.1 hfx y (List.mem_of_getElem? hy)
    | list zs => simp [D.flat, D.one] at hfx
    | int k n => simp only [D.cells] at hy; cases j <;> simp at hy; subst hy; rfl
    | bool b => simp only [D.cells] at hy; cases j <;> simp at hy; subst hy; rfl
    | str s => simp only [D.cells] at hy; cases j <;> simp at hy; subst hy; rfl
  | mb h1 h2 h3 h4 =>
    refine .mb h1 h2 h3 fun i e p he hp => ?_
    have := List.all_eq_true.1 hf p (List.mem_of_getElem? hp)
    simp only [Bool.and_eq_true] at this
    exact ⟨(h4 i e p he hp).1.of_flat this.1, (h4 i e p he hp).2.of_flat this.2⟩

theorem RepB.ren {id : Nat} {blk : Blk} (h : RepB P w ok loc id blk) (g : Nat → Nat) (hg : ∀ id q, loc id = some q → loc' (g id) = some q) (h0 : loc id = none → loc' (g id) = none) : RepB P w ok loc' (g id) (blk.ren g) := by
  cases h with
  | bx h1 h2 h3 h4 =>
    simp only [Blk.ren, AV.renL_eq]
    refine .bx (hg _ _ h1) h2 (by simpa using h3) fun i v y hv hy => ?_
    simp only [List.getElem?_map, Option.map_eq_some_iff] at hy; obtain ⟨y', hy', rfl⟩ := hy
    exact (h4 i v y' hv hy').ren g hg
  | ar0 sz h => exact .ar0 sz (h0 h)
  | ar us h1 h2 h3 h4 h5 h6 => exact .ar us (hg _ _ h1) h2 h3 h4 h5 h6
  | mb h1 h2 h3 h4 => exact .mb (hg _ _ h1) h2 h3 h4

theorem RepB.unren {id : Nat} {blk : Blk} (g : Nat → Nat) (h : RepB P w ok loc (g id) (blk.ren g)) : RepB P w ok (fun q => loc (g q)) id blk := by
  cases blk with
  | bx cs =>
    simp only [Blk.ren, AV.renL_eq] at h
    cases h with | bx h1 h2 h3 h4 => exact .bx h1 h2 (by simpa using h3) fun i v y hv hy => (h4 i v (y.ren g) hv (by simp [hy])).unren g y rfl
  | ar sz xs =>
    cases h with
    | ar0 _ h => exact .ar0 sz h
    | ar us h1 h2 h3 h4 h5 h6 => exact .ar us h1 h2 h3 h4 h5 h6
  | mb es => cases h with | mb h1 h2 h3 h4 => exact .mb h1 h2 h3 h4

theorem RepB.mono_kp {id : Nat} {blk : Blk} (h : RepB P w ok loc id blk) (hk : ∀ b, ok b → ok' b ∧ w'.heap[b]? = w.heap[b]?) (hs : Shapes w w')
    (p : Nat → Bool) (hid : p id = false) (hl : ∀ id, p id = false → loc' id = loc id) (hb : ∀ b δ, loc id = some (b, δ) → w'.heap[b]? = w.heap[b]?) : RepB P w' ok' loc' id (blk.kp p) := by
  cases h with
  | bx h1 h2 h3 h4 =>
    simp only [Blk.kp, AV.kpL_eq]
    refine .bx ((hl _ hid).trans h1) ((hb _ _ h1).trans h2) (by simpa using h3) fun i v y hv hy => ?_
    simp only [List.getElem?_map, Option.map_eq_some_iff] at hy; obtain ⟨y', hy', rfl⟩ := hy
    exact (h4 i v y' hv hy').mono_kp hk hs p hl
  | ar0 sz h => exact .ar0 sz ((hl _ hid).trans h)
  | ar us h1 h2 h3 h4 h5 h6 => exact .ar us ((hl _ hid).trans h1) ((hb _ _ h1).trans h2) h3 h4 h5 fun i j x y hx hy => (h6 i j x y hx hy).mono hk
  | mb h1 h2 h3 h4 => exact .mb ((hl _ hid).trans h1) ((hb _ _ h1).trans h2) h3 fun i e p he hp => ⟨(h4 i e p he hp).1.mono hk, (h4 i e p he hp).2.mono hk⟩
end

theorem RepB.mono_ext {P : Program} {w w' : World} {ok ok' : Nat → Prop} {loc loc' : Nat → Option (Nat × Nat)} {id : Nat} {blk : Blk} (h : RepB P w ok loc id blk) (hk : ∀ b, ok b → ok' b ∧ w'.heap[b]? = w.heap[b]?) (hs : Shapes w w')
    (hl : ∀ id q, loc id = some q → loc' id = some q) (hself : loc' id = loc id) (hb : ∀ b δ, loc id = some (b, δ) → w'.heap[b]? = w.heap[b]?) : RepB P w' ok' loc' id blk := by
  cases h with
  | bx h1 h2 h3 h4 => exact .bx (hself.trans h1) ((hb _ _ h1).trans h2) h3 fun i v y hv hy => (h4 i v y hv hy).mono_ext hk hs hl
  | ar0 sz h => exact .ar0 sz (hself.trans h)
  | ar us h1 h2 h3 h4 h5 h6 => exact .ar us (hself.trans h1) ((hb _ _ h1).trans h2) h3 h4 h5 fun i j x y hx hy => (h6 i j x y hx hy).mono hk
  | mb h1 h2 h3 h4 => exact .mb (hself.trans h1) ((hb _ _ h1).trans h2) h3 fun i e p he hp => ⟨(h4 i e p he hp).1.mono hk, (h4 i e p he hp).2.mono hk⟩

def lookH (h : List (Nat × Blk)) (id : Nat) : Option Blk :=
  match h with
  | [] => none
  | (k, b) :: r => if id = k then some b else lookH r id

def hpOf (h : List (Nat × Blk)) : HP := ⟨lookH h, fun _ => false⟩
def st (h : List (Nat × Blk)) : AS := ⟨fun _ => .unk, hpOf h, fun id => decide (id < 100) || (lookH h id).isSome⟩

/-- The contract of function 'f': called with such arguments, the blocks 'hs' being handed over to be written, it returns; its result, what these blocks hold then, and the new blocks meet 'K'. -/
def ACalls (P : Program) (f : FuncId) (args : List AV) (hs : List (Nat × Blk)) (K : AV → List Blk → List (Nat × Blk) → Prop) : Prop :=
  ∀ (c : Ctx) (vals : List Value), RepL P c (st hs) (fun _ => undef) c.w0 vals args c.floc →
    Calls P f vals.toArray c.w0 fun e w' => ∃ v x bs res loc', e = .returned v ∧ K x bs res ∧ bs.length = hs.length ∧ (∀ p ∈ res, 100 ≤ p.1) ∧
      RepL P c (st ((hs.map Prod.fst).zip bs ++ res)) (fun _ => undef) w' [v] [x] loc'

theorem ACalls.mono {P : Program} {f : FuncId} {args : List AV} {hs : List (Nat × Blk)} {K K' : AV → List Blk → List (Nat × Blk) → Prop} (h : ACalls P f args hs K)
    (hk : ∀ x bs res, K x bs res → K' x bs res) : ACalls P f args hs K' := fun c vals hr =>
  (h c vals hr).mono fun _ _ ⟨v, x, bs, res, l, h1, h2, h3⟩ => ⟨v, x, bs, res, l, h1, hk _ _ _ h2, h3⟩

end Go.Fw
