/- Operations that read and reckon, and leave the world alone: what they yield, and that they do. -/
import Derived.Test.YtfiipgebdcbknaaFwB
set_option linter.unusedSimpArgs false
set_option linter.unusedVariables false
namespace Go.Fw
open Go

/-! ### The program's types, as far as they are asked -/

/-- Of a type: is it a struct or an array; how many cells; the zero value's cells. -/
def tI (P : Program) (t : TypeId) : Option (Bool × Nat × List Value) :=
  match P.underlying t, P.info? t with
  | some u, some i => match i.zero with
    | some z => some ((match u with | .struct _ => true | .array _ _ => true | _ => false), i.size, z.cells.toList)
    | none => none
  | _, _ => none

/-- Where a field lies in its struct. -/
def tField (P : Program) (t : TypeId) (f : Nat) : Option Nat :=
  match P.underlying t with
  | some (.struct fs) => match fs[f]? with
    | some fl => match P.info? fl.type with
      | some i => if i.size = 0 then none else some fl.offset
      | none => none
    | none => none
  | _ => none

/-- A slice type's element: its cells, its bytes, its type. -/
def tElem (P : Program) (t : TypeId) : Option (Nat × Nat × TypeId) :=
  match P.underlying t with
  | some (.slice e) => match P.info? e with
    | some i => some (i.size, i.bytes, e)
    | none => none
  | _ => none

/-- An array type: its length, its elements' cells, are these aggregates. -/
def tArr (P : Program) (t : TypeId) : Option (Nat × Nat × Bool) :=
  match P.underlying t with
  | some (.array n e) => match P.info? e, P.underlying e with
    | some i, some u => some (n, i.size, match u with | .struct _ => true | .array _ _ => true | _ => false)
    | _, _ => none
  | _ => none

def tStr (P : Program) (t : TypeId) : Bool := P.underlying t matches some .string
def tBool (P : Program) (t : TypeId) : Bool := P.underlying t matches some .bool
def D.isU8 : D → Bool
  | .int .u8 _ => true
  | _ => false
def D.u8 : D → UInt8
  | .int _ n => UInt8.ofNat n.toNat
  | _ => 0
/-- An integer type's kind. -/
def tInt (P : Program) (t : TypeId) : Option IntKind := match P.underlying t with | some (.int k) => some k | _ => none

/-- A slice of bytes. -/
def tByteSl (P : Program) (t : TypeId) : Bool := match P.underlying t with | some (.slice e) => (match tInt P e with | some .u8 => true | _ => false) | _ => false

section
variable {P : Program} {w : World}

theorem tI_runs {t : TypeId} {a : Bool} {n : Nat} {z : List Value} (h : tI P t = some (a, n, z)) :
    (isAgg t).run P w = .ok a w ∧ (sizeOf t).run P w = .ok n w ∧ ∃ v, (zeroValue t).run P w = .ok v w ∧ v.cells.toList = z := by
  unfold tI at h
  split at h
  · rename_i u i hu hi
    split at h
    · rename_i zv hz
      simp only [Option.some.injEq, Prod.mk.injEq] at h
      obtain ⟨h1, h2, h3⟩ := h
      refine ⟨?_, ?_, zv, ?_, h3⟩
      · simp only [isAgg, underlying, program, Bind.bind, Sem.bind, Sem.run, hu, Pure.pure]
        rw [← h1]; cases u <;> rfl
      · simp [sizeOf, typeInfo, hi, h2]
      · simp [zeroValue, typeInfo, hi, hz]
    · simp at h
  · simp at h

theorem tElem_und {t : TypeId} {n by' : Nat} {e : TypeId} (h : tElem P t = some (n, by', e)) :
    P.underlying t = some (.slice e) ∧ ∃ i, P.info? e = some i ∧ i.size = n ∧ i.bytes = by' := by
  unfold tElem at h
  split at h
  · rename_i e' he
    split at h
    · rename_i i hi
      simp only [Option.some.injEq, Prod.mk.injEq] at h
      obtain ⟨h1, h2, rfl⟩ := h
      exact ⟨he, i, hi, h1, h2⟩
    · simp at h
  · simp at h

theorem run_underlying' {t : TypeId} {u : TypeDesc} (h : P.underlying t = some u) : (underlying t).run P w = .ok u w := by
  simp [underlying, h]
theorem run_sizeOf' {t : TypeId} {i : TypeInfo} (h : P.info? t = some i) : (sizeOf t).run P w = .ok i.size w := by
  simp [sizeOf, typeInfo, h]
end

/-! ### Values of operations -/

abbrev PA := Prop × AV

def AV.strip : AV → PA
  | .op b x => (b = true, x)
  | x => (True, x)

/-- A value that is there only if 'g' holds. -/
def mkOp (g : Bool) : AV → AV
  | .op g' x => .op (g && g') x
  | x => .op g x

/-- The whole as one datum, if all cells are data. -/
def AV.allD : List AV → Option (List D)
  | [] => some []
  | .d x :: r => (AV.allD r).map (x :: ·)
  | _ :: _ => none
def mkAg (cs : List AV) : AV := match AV.allD cs with | some ds => .d (.agg ds) | none => .ag cs

def D.dflt : D := .bool false

def ofVal : Value → AV
  | .int k n => .d (.int k n)
  | .bool b => .d (.bool b)
  | .string s => .d (.str s.data.toList)
  | .slice a n c => if a = none ∧ n = 0 ∧ c = 0 then .nl else .unk
  | _ => .unk

def fPickC (p0 : Prop) (c : Bool) (a b : AV) : PA :=
  match a.strip, b.strip with
  | (p, .d (.bool x)), (q, .d (.bool y)) => (p0 ∧ (c = true → p) ∧ (c = false → q), .d (.bool (bif c then x else y)))
  | _, _ => match c with
    | true => (p0 ∧ a.strip.1, a.strip.2)
    | false => (p0 ∧ b.strip.1, b.strip.2)
def fPick (c a b : AV) : PA :=
  match c.strip with
  | (p0, .d (.bool c)) => fPickC p0 c a b
  | _ => (False, .unk)

def bitsV (op : BinOp) (k : IntKind) (x y : Int) : Int :=
  let a := BitVec.ofInt k.bits x
  let b := BitVec.ofInt k.bits y
  match op with
  | .and => k.wrap (a &&& b).toNat
  | .or => k.wrap (a ||| b).toNat
  | .xor => k.wrap (a ^^^ b).toNat
  | _ => k.wrap (a &&& ~~~b).toNat

def shiftV (op : BinOp) (k : IntKind) (x y : Int) : Int :=
  let n := min y.toNat k.bits
  match op with
  | .shl => k.wrap (x * 2 ^ n)
  | _ => x.fdiv (2 ^ n)

def fBinInt (op : BinOp) (k : IntKind) (a : Int) (k' : IntKind) (b : Int) : PA :=
  match op with
  | .add => (k = k', .d (.int k (k.wrap (a + b))))
  | .sub => (k = k', .d (.int k (k.wrap (a - b))))
  | .mul => (k = k', .d (.int k (k.wrap (a * b))))
  | .quo => (k = k' ∧ b ≠ 0, .d (.int k (k.wrap (a.tdiv b))))
  | .rem => (k = k' ∧ b ≠ 0, .d (.int k (a.tmod b)))
  | .and => (k = k', .d (.int k (bitsV .and k a b)))
  | .or => (k = k', .d (.int k (bitsV .or k a b)))
  | .xor => (k = k', .d (.int k (bitsV .xor k a b)))
  | .andNot => (k = k', .d (.int k (bitsV .andNot k a b)))
  | .shl => (0 ≤ b, .d (.int k (shiftV .shl k a b)))
  | .shr => (0 ≤ b, .d (.int k (shiftV .shr k a b)))
  | .eql => (k = k', .d (.bool (a == b)))
  | .neq => (k = k', .d (.bool (a != b)))
  | .lss => (k = k', .d (.bool (decide (a < b))))
  | .leq => (k = k', .d (.bool (decide (a ≤ b))))
  | .gtr => (k = k', .d (.bool (decide (a > b))))
  | .geq => (k = k', .d (.bool (decide (a ≥ b))))

def fBinStr (op : BinOp) (a b : List UInt8) : PA :=
  match op with
  | .add => (a.length + b.length ≤ 9223372036854775807, .d (.str (a ++ b)))
  | .eql => (True, .d (.bool (a == b)))
  | .neq => (True, .d (.bool (!(a == b))))
  | .lss => (True, .d (.bool (Op.bytesLess a b)))
  | .leq => (True, .d (.bool (Op.bytesLess a b || a == b)))
  | .gtr => (True, .d (.bool (!(Op.bytesLess a b || a == b))))
  | .geq => (True, .d (.bool (!Op.bytesLess a b)))
  | _ => (False, .unk)

/-- The kinds of a struct's fields, all of them integers, that lie from place 'i' on. -/
def fieldKinds (P : Program) : Nat → List Field → Option (List IntKind)
  | _, [] => some []
  | i, f :: r => if f.name != "_" && f.offset == i then match tInt P f.type, fieldKinds P (i + 1) r with
    | some k, some ks => some (k :: ks)
    | _, _ => none
    else none
/-- A struct, or an array, of integers: their kinds. -/
def tEqS (P : Program) (t : TypeId) : Option (List IntKind) :=
  match P.underlying t with
  | some (.struct fs) => if P.stoodInHeld t = false ∧ P.eqGuardType P.depth t = false then fieldKinds P 0 fs.toList else none
  | some (.array n e) => if P.eqGuardType P.depth t = false ∧ (P.info? e).isSome = true ∧ P.cellsOf e = 1 then (tInt P e).map (List.replicate n) else none
  | _ => none
def aggOk : List IntKind → List D → Prop
  | [], [] => True
  | k :: r, .int k' _ :: s => k' = k ∧ aggOk r s
  | _, _ => False
def aggEq : List D → List D → Bool
  | .int _ a :: r, .int _ b :: s => (a == b) && aggEq r s
  | [], [] => true
  | _, _ => false
def fAggEq (op : BinOp) (ks : Option (List IntKind)) (a b : List D) : PA :=
  match ks with
  | some ks => match op with
    | .eql => (aggOk ks a ∧ aggOk ks b, .d (.bool (aggEq a b)))
    | .neq => (aggOk ks a ∧ aggOk ks b, .d (.bool (!aggEq a b)))
    | _ => (False, .unk)
  | none => (False, .unk)

def fBin (P : Program) (op : BinOp) (t : TypeId) : AV → AV → PA
  | .d (.int k a), .d (.int k' b) => fBinInt op k a k' b
  | .d (.str a), .d (.str b) => fBinStr op a b
  | .d (.bool a), .d (.bool b) => match op with
    | .eql => (tBool P t = true, .d (.bool (a == b)))
    | .neq => (tBool P t = true, .d (.bool (!(a == b))))
    | _ => (False, .unk)
  | .d (.agg a), .d (.agg b) => fAggEq op (tEqS P t) a b
  | _, _ => (False, .unk)

def fUn (op : UnOp) : AV → PA
  | .d (.bool b) => match op with | .not => (True, .d (.bool (!b))) | _ => (False, .unk)
  | .d (.int k n) => match op with | .neg => (True, .d (.int k (k.wrap (-n)))) | _ => (False, .unk)
  | _ => (False, .unk)

def fConv (P : Program) (s t : TypeId) : AV → PA
  | .d (.int _ n) => match tInt P t with
    | some k' => ((P.underlying s).isSome = true, .d (.int k' (k'.wrap n)))
    | none => (False, .unk)
  | _ => (False, .unk)

/-- One cell, or so many of them as an aggregate. -/
def pickCells (agg : Bool) (n : Nat) (cs : List AV) : PA :=
  if agg then (n ≤ cs.length, mkAg (cs.take n)) else match cs with | x :: _ => (True, x) | [] => (False, .unk)

def fLoad (P : Program) (t : TypeId) (hp : HP) : AV → PA
  | .ptr id off => match hp.heap id, tI P t with
    | some (.bx cs), some (a, n, _) => pickCells a n (cs.drop off)
    | _, _ => (False, .unk)
  | .dp cs => match tI P t with
    | some (a, n, _) => pickCells a n cs
    | none => (False, .unk)
  | .ep sz id i off => match hp.heap id, tI P t with
    | some (.ar sz' xs), some (a, n, _) =>
      ((i < xs.length ∧ sz = sz') ∧ (pickCells a n (((xs.getD i D.dflt).cells.drop off).map .d)).1, (pickCells a n (((xs.getD i D.dflt).cells.drop off).map .d)).2)
    | _, _ => (False, .unk)
  | _ => (False, .unk)

def fField (P : Program) (t : TypeId) (f : Nat) : AV → PA
  | .ptr id off => match tField P t f with | some o => (True, .ptr id (off + o)) | none => (False, .unk)
  | .ep sz id i off => match tField P t f with | some o => (True, .ep sz id i (off + o)) | none => (False, .unk)
  | .dp cs => match tField P t f with | some o => (True, .dp (cs.drop o)) | none => (False, .unk)
  | _ => (False, .unk)

def fIdx (P : Program) (t : TypeId) : AV → AV → PA
  | .d (.list xs), .d (.int _ n) => match tElem P t with
    | some (es, _, _) => (0 ≤ n ∧ n < xs.length ∧ (xs.getD n.toNat D.dflt).cells.length = es, .dp ((xs.getD n.toNat D.dflt).cells.map .d))
    | none => (False, .unk)
  | .sl sz id off len, .d (.int _ n) => match tElem P t with
    | some (es, _, _) => (0 ≤ n ∧ n < len ∧ es = sz, .ep sz id (off + n.toNat) 0)
    | none => (False, .unk)
  | .ptr id off, .d (.int _ n) => match tArr P t with
    | some (len, es, _) => (0 ≤ n ∧ n < len, .ptr id (off + n.toNat * es))
    | none => (False, .unk)
  | .dp cs, .d (.int _ n) => match tArr P t with
    | some (len, es, _) => (0 ≤ n ∧ n < len, .dp (cs.drop (n.toNat * es)))
    | none => (False, .unk)
  | _, _ => (False, .unk)

/-- 's[i]' of a string; 'a[i]' of an array that is a value. -/
def fIndex (P : Program) (t : TypeId) : AV → AV → PA
  | .d (.str s), .d (.int _ n) => (tStr P t = true ∧ 0 ≤ n ∧ n < s.length, .d (.int .u8 ((s.getD n.toNat 0).toNat : Int)))
  | .d (.agg cs), .d (.int _ n) => match tArr P t with
    | some (len, 1, false) => (0 ≤ n ∧ n < len ∧ len = cs.length, .d (cs.getD n.toNat D.dflt))
    | _ => (False, .unk)
  | _, _ => (False, .unk)

def fLen (P : Program) (t : TypeId) : AV → PA
  | .d (.str s) => (tStr P t = true, .d (.int .i64 s.length))
  | .d (.list xs) => match tElem P t with | some _ => (True, .d (.int .i64 xs.length)) | none => (False, .unk)
  | .sl _ _ _ len => match tElem P t with | some _ => (True, .d (.int .i64 len)) | none => (False, .unk)
  | .nl => match tElem P t with | some _ => (True, .d (.int .i64 0)) | none => (False, .unk)
  | _ => (False, .unk)

/-- A bound of 'x[lo:hi]': none, or a number. -/
def bnd (dflt : Int) : Option AV → Option Int
  | none => some dflt
  | some (.d (.int _ n)) => some n
  | _ => none

def fSlice (P : Program) (t : TypeId) (x : AV) (lo hi : Option AV) : PA :=
  match x with
  | .d (.str s) => match bnd 0 lo, bnd s.length hi with
    | some l, some h => (tStr P t = true ∧ 0 ≤ l ∧ l ≤ h ∧ h ≤ s.length, .d (.str ((s.take h.toNat).drop l.toNat)))
    | _, _ => (False, .unk)
  | .d (.list xs) => match bnd 0 lo, bnd xs.length hi, tElem P t with
    | some l, some h, some (es, _, _) => (0 ≤ l ∧ l ≤ h ∧ h ≤ xs.length ∧ (l < h → (xs.getD l.toNat D.dflt).cells.length = es), .d (.list ((xs.take h.toNat).drop l.toNat)))
    | _, _, _ => (False, .unk)
  | .sl sz id off len => match bnd 0 lo, bnd len hi, tElem P t with
    | some l, some h, some (es, _, _) => (0 ≤ l ∧ l ≤ h ∧ h ≤ len ∧ es = sz, .sl sz id (off + l.toNat) (h.toNat - l.toNat))
    | _, _, _ => (False, .unk)
  | _ => (False, .unk)

def fExtract (i : Nat) : AV → PA
  | .tp cs => match cs[i]? with | some x => (True, x) | none => (False, .unk)
  | _ => (False, .unk)

def fNil : AV → PA
  | .ptr id off => (True, .ptr id off)
  | .ep sz id i off => (True, .ep sz id i off)
  | .dp cs => (True, .dp cs)
  | _ => (False, .unk)

end Go.Fw
