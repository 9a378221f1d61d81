/- The framework, part Fwa. -/
import Derived.WalkKit
import Derived.Laws.StructEq
import Derived.ChangeKeysEq
import Derived.Laws.BytesString
import Derived.MapKept
import Derived.WideKeyRuns
set_option linter.unusedSimpArgs false
set_option linter.unusedVariables false
/- The abstract values of a frame, and what it means that a Go value in a world bears one. -/
namespace Go.Fw
open Go

/-- Immutable data. 'list': a slice; 'agg': the cells of a struct or an array. -/
inductive D where
  | int (k : IntKind) (n : Int)
  | bool (b : Bool)
  | str (s : List UInt8)
  | list (xs : List D)
  | agg (cs : List D)

def D.cells : D → List D
  | .agg cs => cs
  | x => [x]

def D.isAgg : D → Bool
  | .agg _ => true
  | _ => false

/-- So many cells, each of them one. -/
def D.fits (sz : Nat) (x : D) : Prop := x.cells.length = sz ∧ ∀ y ∈ x.cells, y.isAgg = false

/-- No slice inside. -/
def D.one : D → Bool
  | .list _ => false
  | .agg _ => false
  | _ => true
def D.flat : D → Bool
  | .agg cs => cs.all D.one
  | x => x.one

/-- Abstract values of slots and cells. -/
inductive AV where
  | unk
  | d (x : D)
  | nl
  | ptr (id off : Nat)
  | sl (sz id off len : Nat)
  | ep (sz id i off : Nat)
  | dp (cs : List AV)
  | ag (cs : List AV)
  | tp (cs : List AV)
  | fv (fn : Fn) (first caps : List AV)
  | clo (S : List D → (D → Prop) → Prop)
  | mp (id : Nat)
  | op (b : Bool) (x : AV)

mutual
def AV.kill (k : Nat) : AV → AV
  | .ptr id off => if id = k then .unk else .ptr id off
  | .sl sz id off len => if id = k then .unk else .sl sz id off len
  | .ep sz id i off => if id = k then .unk else .ep sz id i off
  | .mp id => if id = k then .unk else .mp id
  | .dp cs => .dp (AV.killL k cs)
  | .ag cs => .ag (AV.killL k cs)
  | .tp cs => .tp (AV.killL k cs)
  | .fv fn a b => .fv fn (AV.killL k a) (AV.killL k b)
  | .op b x => .op b (x.kill k)
  | .d x => .d x
  | .nl => .nl
  | .unk => .unk
  | .clo S => .clo S
def AV.killL (k : Nat) : List AV → List AV
  | [] => []
  | x :: r => x.kill k :: AV.killL k r
end

theorem AV.killL_eq (k : Nat) : ∀ l, AV.killL k l = l.map (AV.kill k)
  | [] => rfl
  | x :: r => by simp [AV.killL, AV.killL_eq k r]

/-- What a block of the frame's own holds. 'bx': a variable, cell by cell; 'ar': a row of elements of 'sz' cells each; 'mb': a map. -/
inductive Blk where
  | bx (cs : List AV)
  | ar (sz : Nat) (xs : List D)
  | mb (es : List (D × D))

def Blk.kill (k : Nat) : Blk → Blk
  | .bx cs => .bx (AV.killL k cs)
  | b => b

/-- The value 'v' is the datum, read in blocks that 'ok' names. -/
inductive RepV (w : World) (ok : Nat → Prop) : Value → D → Prop where
  | int (k : IntKind) (n : Int) : RepV w ok (.int k n) (.int k n)
  | bool (b : Bool) : RepV w ok (.bool b) (.bool b)
  | str (s : List UInt8) : RepV w ok (.string ⟨s.toArray⟩) (.str s)
  | nil (base : Option Addr) (cap : Nat) : RepV w ok (.slice base 0 cap) (.list [])
  | list {b off len cap sz : Nat} {c : Array Value} {T : TypeId} {fz : Nat × Nat} {xs : List D} (vs : Nat → Nat → Value) :
      xs.length = len → len ≤ cap → ok b → w.heap[b]? = some (.cells c T fz) → (∀ x ∈ xs, x.fits sz) →
      (∀ (i j : Nat) (x y : D), xs[i]? = some x → x.cells[j]? = some y → c[off + i * sz + j]? = some (vs i j)) →
      (∀ (i j : Nat) (x y : D), xs[i]? = some x → x.cells[j]? = some y → RepV w ok (vs i j) y) →
      RepV w ok (.slice (some ⟨b, off, none⟩) len cap) (.list xs)
  | agg {vs : Array Value} {cs : List D} : vs.size = cs.length → (∀ (i : Nat) (v : Value) (y : D), vs[i]? = some v → cs[i]? = some y → RepV w ok v y) → RepV w ok (.agg vs) (.agg cs)

/-- From one world to a later one: the blocks that 'ok' names are as they were. -/
theorem RepV.mono {w w' : World} {ok ok' : Nat → Prop} {v : Value} {x : D} (h : RepV w ok v x)
    (hk : ∀ b, ok b → ok' b ∧ w'.heap[b]? = w.heap[b]?) : RepV w' ok' v x := by
  induction h with
  | int k n => exact .int k n
  | bool b => exact .bool b
  | str s => exact .str s
  | nil base cap => exact .nil base cap
  | list vs hl hcap ho hh hs hc _ ih => exact .list vs hl hcap (hk _ ho).1 ((hk _ ho).2.trans hh) hs hc ih
  | agg hs _ ih => exact .agg hs ih

theorem RepV.of_one {w w' : World} {ok ok' : Nat → Prop} {v : Value} {x : D} (h : RepV w ok v x) (hf : x.one = true) : RepV w' ok' v x := by
  cases h with
  | int k n => exact .int k n
  | bool b => exact .bool b
  | str s => exact .str s
  | nil base cap => simp [D.one] at hf
  | list vs hl _ ho hh hs hc _ => simp [D.one] at hf
  | agg hs _ => simp [D.one] at hf

theorem RepV.of_flat {w w' : World} {ok ok' : Nat → Prop} {v : Value} {x : D} (h : RepV w ok v x) (hf : x.flat = true) : RepV w' ok' v x := by
  cases h with
  | agg hs hc =>
    refine .agg hs fun i v y hv hy => (hc i v y hv hy).of_one ?_
    simp only [D.flat, List.all_eq_true] at hf
    exact hf y (List.mem_of_getElem? hy)
  | int k n => exact .int k n
  | bool b => exact .bool b
  | str s => exact .str s
  | nil base cap => simp [D.flat, D.one] at hf
  | list vs hl _ ho hh hs hc _ => simp [D.flat, D.one] at hf

/-- A later world in which all that was there is as it was. -/
structure ExtW (w w' : World) : Prop where
  os : w'.os = w.os
  tape : w'.tape = w.tape
  output : w'.output = w.output
  size : w.heap.size ≤ w'.heap.size
  block : ∀ b, b < w.heap.size → w'.heap[b]? = w.heap[b]?

theorem ExtW.refl (w : World) : ExtW w w := ⟨rfl, rfl, rfl, Nat.le_refl _, fun _ _ => rfl⟩
theorem ExtW.trans {a b c : World} (h : ExtW a b) (k : ExtW b c) : ExtW a c :=
  ⟨k.os.trans h.os, k.tape.trans h.tape, k.output.trans h.output, Nat.le_trans h.size k.size,
   fun i hi => (k.block i (Nat.lt_of_lt_of_le hi h.size)).trans (h.block i hi)⟩
theorem ExtW.alloc (w : World) (o : Obj) : ExtW w (w.alloc o) :=
  ⟨rfl, rfl, rfl, by simp, fun b hb => (by rw [World.alloc]; simp [Array.getElem?_push]; omega)⟩
theorem ExtW.drew (w : World) : ExtW w w.drew := ⟨rfl, rfl, rfl, Nat.le_refl _, fun _ _ => rfl⟩
theorem ExtW.drawn (w : World) (n : Nat) : ExtW w { w with drawn := n } := ⟨rfl, rfl, rfl, Nat.le_refl _, fun _ _ => rfl⟩

def callable (P : Program) (f : FuncId) : Bool :=
  match P.funcs[f]? with
  | some fn => !(fn.name == "runtime.NumGoroutine") && fn.body.isSome
  | none => false

/-- A function value that answers as 'S' says, in every later world, and writes nothing that was there. -/
def CloOk (P : Program) (w : World) (ok : Nat → Prop) (v : Value) (S : List D → (D → Prop) → Prop) : Prop :=
  ∃ f fst caps, v = .func (.func f) fst caps ∧ callable P f = true ∧
    ∀ (w' : World) (ok' : Nat → Prop), (∀ b, ok b → ok' b ∧ w'.heap[b]? = w.heap[b]?) → (∀ b, ok' b → b < w'.heap.size) →
      ∀ (ds : List D) (vs : List Value) (K : D → Prop), vs.length = ds.length →
        (∀ (i : Nat) v x, vs[i]? = some v → ds[i]? = some x → RepV w' ok' v x) → S ds K →
        Calls P f (fst ++ vs.toArray ++ caps) w' fun e w'' =>
          ∃ r x, e = .returned r ∧ x.flat = true ∧ RepV w'' (fun _ => False) r x ∧ K x ∧ ExtW w' w''

theorem CloOk.mono {P : Program} {w w' : World} {ok ok' : Nat → Prop} {v : Value} {S : List D → (D → Prop) → Prop} (h : CloOk P w ok v S)
    (hk : ∀ b, ok b → ok' b ∧ w'.heap[b]? = w.heap[b]?) : CloOk P w' ok' v S := by
  obtain ⟨f, fst, caps, hv, hcb, H⟩ := h
  refine ⟨f, fst, caps, hv, hcb, fun w2 ok2 h2 hs => H w2 ok2 (fun b hb => ?_) hs⟩
  obtain ⟨h3, h4⟩ := hk b hb
  obtain ⟨h5, h6⟩ := h2 b h3
  exact ⟨h5, h6.trans h4⟩

/-- The value 'v' is the abstract value. -/
inductive RepA (P : Program) (w : World) (ok : Nat → Prop) (loc : Nat → Option (Nat × Nat)) : Value → AV → Prop where
  | unk (v : Value) : RepA P w ok loc v .unk
  | d {v : Value} {x : D} : RepV w ok v x → RepA P w ok loc v (.d x)
  | nl : RepA P w ok loc (.slice none 0 0) .nl
  | ptr {id off b δ : Nat} : loc id = some (b, δ) → RepA P w ok loc (.pointer (some ⟨b, δ + off, none⟩)) (.ptr id off)
  | sl0 (base : Option Addr) (sz id off : Nat) : RepA P w ok loc (.slice base 0 0) (.sl sz id off 0)
  | sl {sz id off len b δ cap : Nat} {c : Array Value} {T : TypeId} {fz : Nat × Nat} : loc id = some (b, δ) → w.heap[b]? = some (.cells c T fz) →
      δ + (off + cap) * sz ≤ c.size → len ≤ cap → cap ≤ maxLen → RepA P w ok loc (.slice (some ⟨b, δ + off * sz, none⟩) len cap) (.sl sz id off len)
  | ep {sz id i off b δ : Nat} : loc id = some (b, δ) → RepA P w ok loc (.pointer (some ⟨b, δ + i * sz + off, none⟩)) (.ep sz id i off)
  | dp {b o : Nat} {c : Array Value} {T : TypeId} {fz : Nat × Nat} {cs : List AV} (u : Nat → Value) : ok b → w.heap[b]? = some (.cells c T fz) →
      (∀ (j : Nat) (y : AV), cs[j]? = some y → c[o + j]? = some (u j)) → (∀ (j : Nat) (y : AV), cs[j]? = some y → RepA P w ok loc (u j) y) →
      RepA P w ok loc (.pointer (some ⟨b, o, none⟩)) (.dp cs)
  | ag {vs : Array Value} {cs : List AV} : vs.size = cs.length → (∀ (i : Nat) v y, vs[i]? = some v → cs[i]? = some y → RepA P w ok loc v y) → RepA P w ok loc (.agg vs) (.ag cs)
  | tp {vs : Array Value} {cs : List AV} : vs.size = cs.length → (∀ (i : Nat) v y, vs[i]? = some v → cs[i]? = some y → RepA P w ok loc v y) → RepA P w ok loc (.tuple vs) (.tp cs)
  | fv {fn : Fn} {f c : Array Value} {first caps : List AV} : f.size = first.length → c.size = caps.length →
      (∀ (i : Nat) v y, f[i]? = some v → first[i]? = some y → RepA P w ok loc v y) → (∀ (i : Nat) v y, c[i]? = some v → caps[i]? = some y → RepA P w ok loc v y) →
      RepA P w ok loc (.func fn f c) (.fv fn first caps)
  | clo {v : Value} {S : List D → (D → Prop) → Prop} : CloOk P w ok v S → RepA P w ok loc v (.clo S)
  | mp {id b : Nat} : loc id = some (b, 0) → RepA P w ok loc (.map (some b)) (.mp id)
  | op {v : Value} {b : Bool} {x : AV} : (b = true → RepA P w ok loc v x) → (b = false → v = undef) → RepA P w ok loc v (.op b x)

/-- Shapes stay. -/
def Shapes (w w' : World) : Prop := ∀ (b : Nat) (c : Array Value) (T : TypeId) (fz : Nat × Nat), w.heap[b]? = some (.cells c T fz) → ∃ c' T' fz', w'.heap[b]? = some (.cells c' T' fz') ∧ c'.size = c.size

theorem Shapes.refl (w : World) : Shapes w w := fun _ c T fz h => ⟨c, T, fz, h, rfl⟩
theorem Shapes.of_ext {w w' : World} (h : ExtW w w') : Shapes w w' := fun b c T fz hb =>
  ⟨c, T, fz, (h.block b (by
    rcases Nat.lt_or_ge b w.heap.size with h' | h'
    · exact h'
    · rw [Array.getElem?_eq_none h'] at hb; cases hb)).trans hb, rfl⟩

section
variable {P : Program} {w w' : World} {ok ok' : Nat → Prop} {loc loc' : Nat → Option (Nat × Nat)}

/-- Later worlds; the ids lie where they lay, but for those that have been struck ('kill'). -/
theorem RepA.mono_kill {v : Value} {x : AV} (h : RepA P w ok loc v x) (hk : ∀ b, ok b → ok' b ∧ w'.heap[b]? = w.heap[b]?) (hs : Shapes w w')
    (k : Nat) (hl : ∀ id, id ≠ k → loc' id = loc id) : RepA P w' ok' loc' v (x.kill k) := by
  induction h with
  | unk v => exact .unk v
  | d h => exact .d (h.mono hk)
  | nl => exact .nl
  | @ptr id off b δ h =>
    simp only [AV.kill]; split
    · exact .unk _
    · rename_i hne; exact .ptr ((hl _ hne).trans h)
  | sl0 base sz id off =>
    simp only [AV.kill]; split
    · exact .unk _
    · exact .sl0 _ _ _ _
  | @sl sz id off len b δ cap c T fz h hh hcap hlen hm =>
    simp only [AV.kill]; split
    · exact .unk _
    · rename_i hne
      obtain ⟨c', T', fz', hc', he⟩ := hs _ _ _ _ hh
      exact .sl ((hl _ hne).trans h) hc' (by rw [he]; exact hcap) hlen hm
  | @ep sz id i off b δ h =>
    simp only [AV.kill]; split
    · exact .unk _
    · rename_i hne; exact .ep ((hl _ hne).trans h)
  | @dp b o c T fz cs u ho hh hc _ ih =>
    simp only [AV.kill, AV.killL_eq]
    refine .dp u (hk _ ho).1 ((hk _ ho).2.trans hh) (fun j y hy => ?_) (fun j y hy => ?_)
    · simp only [List.getElem?_map, Option.map_eq_some_iff] at hy; obtain ⟨y', hy', rfl⟩ := hy; exact hc j y' hy'
    · simp only [List.getElem?_map, Option.map_eq_some_iff] at hy; obtain ⟨y', hy', rfl⟩ := hy; exact ih j y' hy'
  | ag hs' _ ih =>
    simp only [AV.kill, AV.killL_eq]
    refine .ag (by simpa using hs') (fun i v y hv hy => ?_)
    simp only [List.getElem?_map, Option.map_eq_some_iff] at hy; obtain ⟨y', hy', rfl⟩ := hy; exact ih i v y' hv hy'
  | tp hs' _ ih =>
    simp only [AV.kill, AV.killL_eq]
    refine .tp (by simpa using hs') (fun i v y hv hy => ?_)
    simp only [List.getElem?_map, Option.map_eq_some_iff] at hy; obtain ⟨y', hy', rfl⟩ := hy; exact ih i v y' hv hy'
  | fv h1 h2 _ _ ih1 ih2 =>
    simp only [AV.kill, AV.killL_eq]
    refine .fv (by simpa using h1) (by simpa using h2) (fun i v y hv hy => ?_) (fun i v y hv hy => ?_)
    · simp only [List.getElem?_map, Option.map_eq_some_iff] at hy; obtain ⟨y', hy', rfl⟩ := hy; exact ih1 i v y' hv hy'
    · simp only [List.getElem?_map, Option.map_eq_some_iff] at hy; obtain ⟨y', hy', rfl⟩ := hy; exact ih2 i v y' hv hy'
  | clo h => exact .clo (h.mono hk)
  | @mp id b h =>
    simp only [AV.kill]; split
    · exact .unk _
    · rename_i hne; exact .mp ((hl _ hne).trans h)
  | op _ h0 ih => exact .op ih h0

theorem RepA.mono {v : Value} {x : AV} (h : RepA P w ok loc v x) (hk : ∀ b, ok b → ok' b ∧ w'.heap[b]? = w.heap[b]?) (hs : Shapes w w') :
    RepA P w' ok' loc v x := by
  induction h with
  | unk v => exact .unk v
  | d h => exact .d (h.mono hk)
  | nl => exact .nl
  | ptr h => exact .ptr h
  | sl0 base sz id off => exact .sl0 _ _ _ _
  | sl h hh hcap hlen hm =>
    obtain ⟨c', T', fz', hc', he⟩ := hs _ _ _ _ hh
    exact .sl h hc' (by rw [he]; exact hcap) hlen hm
  | ep h => exact .ep h
  | dp u ho hh hc _ ih => exact .dp u (hk _ ho).1 ((hk _ ho).2.trans hh) hc ih
  | ag hs' _ ih => exact .ag hs' ih
  | tp hs' _ ih => exact .tp hs' ih
  | fv h1 h2 _ _ ih1 ih2 => exact .fv h1 h2 ih1 ih2
  | clo h => exact .clo (h.mono hk)
  | mp h => exact .mp h
  | op _ h0 ih => exact .op ih h0
end

theorem RepA.mono_ext {P : Program} {w w' : World} {ok ok' : Nat → Prop} {loc loc' : Nat → Option (Nat × Nat)} {v : Value} {x : AV} (h : RepA P w ok loc v x) (hk : ∀ b, ok b → ok' b ∧ w'.heap[b]? = w.heap[b]?) (hs : Shapes w w')
    (hl : ∀ id q, loc id = some q → loc' id = some q) : RepA P w' ok' loc' v x := by
  induction h with
  | unk v => exact .unk v
  | d h => exact .d (h.mono hk)
  | nl => exact .nl
  | ptr h => exact .ptr (hl _ _ h)
  | sl0 base sz id off => exact .sl0 _ _ _ _
  | sl h hh hcap hlen hm =>
    obtain ⟨c', T', fz', hc', he⟩ := hs _ _ _ _ hh
    exact .sl (hl _ _ h) hc' (by rw [he]; exact hcap) hlen hm
  | ep h => exact .ep (hl _ _ h)
  | dp u ho hh hc _ ih => exact .dp u (hk _ ho).1 ((hk _ ho).2.trans hh) hc ih
  | ag hs' _ ih => exact .ag hs' ih
  | tp hs' _ ih => exact .tp hs' ih
  | fv h1 h2 _ _ ih1 ih2 => exact .fv h1 h2 ih1 ih2
  | clo h => exact .clo (h.mono hk)
  | mp h => exact .mp (hl _ _ h)
  | op _ h0 ih => exact .op ih h0

/-- Where a function was entered: the world, the blocks that its data may lie in, the blocks of its callers that it may write; where the numbers below 100 lie. -/
structure Ctx where
  w0 : World
  ok0 : Nat → Prop
  md : Nat → Prop
  floc : Nat → Option (Nat × Nat)
  zero : floc 0 = none
  lt : ∀ b, ok0 b → b < w0.heap.size
  apart : ∀ b, ok0 b → ¬ md b

structure HP where
  heap : Nat → Option Blk
  lock : Nat → Bool

/-- A frame's abstract state. -/
structure AS where
  sl : Nat → AV
  hp : HP
  used : Nat → Bool

def Live (h : HP) (id : Nat) : Prop := h.heap id ≠ none

def okOf (c : Ctx) (w : World) (h : HP) (loc : Nat → Option (Nat × Nat)) (b : Nat) : Prop :=
  b < w.heap.size ∧ (c.ok0 b ∨ c.w0.heap.size ≤ b ∨ c.md b) ∧ ∀ id δ, Live h id → loc id ≠ some (b, δ)

inductive RepB (P : Program) (w : World) (ok : Nat → Prop) (loc : Nat → Option (Nat × Nat)) (id : Nat) : Blk → Prop where
  | bx {b : Nat} {c : Array Value} {T : TypeId} {cs : List AV} : loc id = some (b, 0) → w.heap[b]? = some (.cells c T (0, 0)) → c.size = cs.length →
      (∀ (i : Nat) v y, c[i]? = some v → cs[i]? = some y → RepA P w ok loc v y) → RepB P w ok loc id (.bx cs)
  | ar0 (sz : Nat) : loc id = none → RepB P w ok loc id (.ar sz [])
  | ar {b δ : Nat} {c : Array Value} {T : TypeId} {sz : Nat} {xs : List D} (vs : Nat → Nat → Value) : loc id = some (b, δ) → w.heap[b]? = some (.cells c T (0, 0)) →
      δ + xs.length * sz ≤ c.size → (∀ x ∈ xs, x.fits sz) →
      (∀ (i j : Nat) (x y : D), xs[i]? = some x → x.cells[j]? = some y → c[δ + i * sz + j]? = some (vs i j)) →
      (∀ (i j : Nat) (x y : D), xs[i]? = some x → x.cells[j]? = some y → RepV w ok (vs i j) y) →
      RepB P w ok loc id (.ar sz xs)
  | mb {b clock : Nat} {ents : Array MapEntry} {es : List (D × D)} : loc id = some (b, 0) → w.heap[b]? = some (.map ents clock) → ents.size = es.length →
      (∀ (i : Nat) e p, ents[i]? = some e → es[i]? = some p → RepV w ok e.key p.1 ∧ RepV w ok e.val p.2) → RepB P w ok loc id (.mb es)

structure ExtC (c : Ctx) (w : World) : Prop where
  os : w.os = c.w0.os
  tape : w.tape = c.w0.tape
  output : w.output = c.w0.output
  size : c.w0.heap.size ≤ w.heap.size
  block : ∀ b, b < c.w0.heap.size → ¬ c.md b → w.heap[b]? = c.w0.heap[b]?
  shape : Shapes c.w0 w

theorem Shapes.trans {a b c : World} (h : Shapes a b) (k : Shapes b c) : Shapes a c := fun n x T fz hx => by
  obtain ⟨x1, T1, f1, h1, e1⟩ := h n x T fz hx
  obtain ⟨x2, T2, f2, h2, e2⟩ := k n x1 T1 f1 h1
  exact ⟨x2, T2, f2, h2, e2.trans e1⟩

/-- The core of 'Rep': all but the existence of 'loc'. -/
structure RepL (P : Program) (c : Ctx) (σ : AS) (ρ : Nat → Value) (w : World) (vs : List Value) (xs : List AV) (loc : Nat → Option (Nat × Nat)) : Prop where
  slots : ∀ s, RepA P w (okOf c w σ.hp loc) loc (ρ s) (σ.sl s)
  len : vs.length = xs.length
  vals : ∀ (i : Nat) v x, vs[i]? = some v → xs[i]? = some x → RepA P w (okOf c w σ.hp loc) loc v x
  heap : ∀ id blk, σ.hp.heap id = some blk → RepB P w (okOf c w σ.hp loc) loc id blk
  inj : ∀ id id' b δ δ', Live σ.hp id → Live σ.hp id' → loc id = some (b, δ) → loc id' = some (b, δ') → id = id'
  own : ∀ id b δ, Live σ.hp id → loc id = some (b, δ) → b < w.heap.size ∧ ¬ c.ok0 b ∧ (c.w0.heap.size ≤ b ∨ c.md b)
  ext : ExtC c w
  fix : ∀ id, (id < 100 ∨ 1000000000000 ≤ id) → loc id = c.floc id
  dom : ∀ id, σ.used id = false → loc id = none
  liveU : ∀ id, Live σ.hp id → σ.used id = true

/-- The frame (slots ρ, world w) is the abstract state; and the values 'vs' are 'xs'. -/
def Rep (P : Program) (c : Ctx) (σ : AS) (ρ : Nat → Value) (w : World) (vs : List Value) (xs : List AV) : Prop :=
  ∃ loc, RepL P c σ ρ w vs xs loc

def upd {α : Type} (f : Nat → α) (k : Nat) (v : α) : Nat → α := fun s => if s = k then v else f s

theorem upd_apply {α : Type} (f : Nat → α) (k : Nat) (v : α) (s : Nat) : upd f k v s = if s = k then v else f s := rfl

def AS.put (σ : AS) (dst : Option Nat) (x : AV) : AS :=
  match dst with
  | some t => { σ with sl := upd σ.sl t x }
  | none => σ

end Go.Fw

/- The abstract state over steps of the world: later worlds, new blocks, cells that are written. -/
namespace Go.Fw
open Go

section
variable {P : Program} {c : Ctx} {σ : AS} {ρ : Nat → Value} {w w' : World} {vs : List Value} {xs : List AV} {loc : Nat → Option (Nat × Nat)}

theorem ExtC.step (h : ExtC c w) (hx : ExtW w w') : ExtC c w' :=
  ⟨hx.os.trans h.os, hx.tape.trans h.tape, hx.output.trans h.output, Nat.le_trans h.size hx.size,
   fun b hb hm => (hx.block b (Nat.lt_of_lt_of_le hb h.size)).trans (h.block b hb hm), h.shape.trans (Shapes.of_ext hx)⟩

theorem okOf.step {h : HP} (hx : ExtW w w') (b : Nat) (hb : okOf c w h loc b) : okOf c w' h loc b ∧ w'.heap[b]? = w.heap[b]? :=
  ⟨⟨Nat.lt_of_lt_of_le hb.1 hx.size, hb.2⟩, hx.block b hb.1⟩

theorem RepB.mono {ok ok' : Nat → Prop} {id : Nat} {blk : Blk} (h : RepB P w ok loc id blk)
    (hk : ∀ b, ok b → ok' b ∧ w'.heap[b]? = w.heap[b]?) (hs : Shapes w w') (hid : ∀ b δ, loc id = some (b, δ) → w'.heap[b]? = w.heap[b]?) :
    RepB P w' ok' loc id blk := by
  cases h with
  | bx hl hh hz hc => exact .bx hl ((hid _ _ hl).trans hh) hz fun i v y hv hy => (hc i v y hv hy).mono hk hs
  | ar0 sz hl => exact .ar0 sz hl
  | ar vs hl hh hz hsz hc hv => exact .ar vs hl ((hid _ _ hl).trans hh) hz hsz hc fun i j x y hx hy => (hv i j x y hx hy).mono hk
  | mb hl hh hz hc => exact .mb hl ((hid _ _ hl).trans hh) hz fun i e p he hp => ⟨(hc i e p he hp).1.mono hk, (hc i e p he hp).2.mono hk⟩

theorem RepB.mono_kill {ok ok' : Nat → Prop} {loc' : Nat → Option (Nat × Nat)} {id k : Nat} {blk : Blk} (h : RepB P w ok loc id blk) (hne : id ≠ k)
    (hk : ∀ b, ok b → ok' b ∧ w'.heap[b]? = w.heap[b]?) (hs : Shapes w w') (hl' : ∀ id, id ≠ k → loc' id = loc id)
    (hid : ∀ b δ, loc id = some (b, δ) → w'.heap[b]? = w.heap[b]?) :
    RepB P w' ok' loc' id (blk.kill k) := by
  cases h with
  | @bx b c T cs hl hh hz hc =>
    refine .bx ((hl' _ hne).trans hl) ((hid _ _ hl).trans hh) (by simpa [AV.killL_eq] using hz) fun i v y hv hy => ?_
    rw [AV.killL_eq] at hy
    simp only [List.getElem?_map, Option.map_eq_some_iff] at hy
    obtain ⟨y', hy', rfl⟩ := hy
    exact (hc i v y' hv hy').mono_kill hk hs k hl'
  | ar0 sz hl => exact .ar0 sz ((hl' _ hne).trans hl)
  | ar vs hl hh hz hsz hc hv => exact .ar vs ((hl' _ hne).trans hl) ((hid _ _ hl).trans hh) hz hsz hc fun i j x y hx hy => (hv i j x y hx hy).mono hk
  | mb hl hh hz hc => exact .mb ((hl' _ hne).trans hl) ((hid _ _ hl).trans hh) hz fun i e p he hp => ⟨(hc i e p he hp).1.mono hk, (hc i e p he hp).2.mono hk⟩

/-- A later world in which nothing that was there has turned. -/
theorem RepL.ext' (h : RepL P c σ ρ w vs xs loc) (hx : ExtW w w') : RepL P c σ ρ w' vs xs loc where
  slots s := (h.slots s).mono (okOf.step hx) (Shapes.of_ext hx)
  len := h.len
  vals i v x hv hxx := (h.vals i v x hv hxx).mono (okOf.step hx) (Shapes.of_ext hx)
  heap id blk hb := (h.heap id blk hb).mono (okOf.step hx) (Shapes.of_ext hx) fun b δ hl => hx.block b (h.own id b δ (by simp [Live, hb]) hl).1
  inj := h.inj
  own id b δ hl he := let ⟨h1, h2, h3⟩ := h.own id b δ hl he; ⟨Nat.lt_of_lt_of_le h1 hx.size, h2, h3⟩
  ext := h.ext.step hx
  fix := h.fix
  dom := h.dom
  liveU := h.liveU

theorem Rep.ext' (h : Rep P c σ ρ w vs xs) (hx : ExtW w w') : Rep P c σ ρ w' vs xs := let ⟨l, h⟩ := h; ⟨l, h.ext' hx⟩

theorem RepL.put (h : RepL P c σ ρ w vs xs loc) (t : Nat) {v : Value} {x : AV} (hv : RepA P w (okOf c w σ.hp loc) loc v x) :
    RepL P c (σ.put (some t) x) (upd ρ t v) w vs xs loc where
  slots s := by
    simp only [AS.put, upd]
    by_cases hs : s = t
    · simp only [hs, if_true]; exact hv
    · simp only [hs, if_false]; exact h.slots s
  len := h.len
  vals := h.vals
  heap := h.heap
  inj := h.inj
  own := h.own
  ext := h.ext
  fix := h.fix
  dom := h.dom
  liveU := h.liveU

theorem RepL.vals0 (h : RepL P c σ ρ w vs xs loc) : RepL P c σ ρ w [] [] loc :=
  ⟨h.slots, rfl, fun i v x hv => by simp at hv, h.heap, h.inj, h.own, h.ext, h.fix, h.dom, h.liveU⟩

theorem RepL.setVals (h : RepL P c σ ρ w vs xs loc) {vs' : List Value} {xs' : List AV} (hl : vs'.length = xs'.length)
    (hv : ∀ (i : Nat) v x, vs'[i]? = some v → xs'[i]? = some x → RepA P w (okOf c w σ.hp loc) loc v x) : RepL P c σ ρ w vs' xs' loc :=
  ⟨h.slots, hl, hv, h.heap, h.inj, h.own, h.ext, h.fix, h.dom, h.liveU⟩

theorem RepL.setVal1 (h : RepL P c σ ρ w vs xs loc) {v : Value} {x : AV} (hv : RepA P w (okOf c w σ.hp loc) loc v x) : RepL P c σ ρ w [v] [x] loc :=
  h.setVals rfl fun i v' x' h1 h2 => by
    cases i with
    | zero => simp at h1 h2; subst h1; subst h2; exact hv
    | succ i => simp at h1

theorem RepL.val1 {v : Value} {x : AV} (h : RepL P c σ ρ w [v] [x] loc) : RepA P w (okOf c w σ.hp loc) loc v x := h.vals 0 v x rfl rfl

/-- The state with a block of the frame's own, number 'k', struck wherever it is named. -/
def HP.kill (k : Nat) (h : HP) : HP := { h with heap := fun id => if id = k then none else (h.heap id).map (Blk.kill k) }
def HP.set (h : HP) (k : Nat) (b : Blk) : HP := { h with heap := upd h.heap k (some b) }
def HP.drop (h : HP) (k : Nat) : HP := { h with heap := upd h.heap k none }
def killS (k : Nat) (f : Nat → AV) : Nat → AV := fun s => (f s).kill k
/-- A block put in the place of block 'k': what named that is struck. -/
def AS.renew (σ : AS) (k : Nat) (b : Blk) : AS := { sl := killS k σ.sl, hp := (σ.hp.kill k).set k b, used := σ.used }
/-- A new block under a number that is free. -/
def AS.new (σ : AS) (k : Nat) (b : Blk) : AS := { sl := σ.sl, hp := σ.hp.set k b, used := upd σ.used k true }
/-- Is the number free? -/
def AS.free (σ : AS) (k : Nat) : Prop := (100 ≤ k ∧ k < 1000000000000) ∧ σ.used k = false

theorem RepL.free_heap (h : RepL P c σ ρ w vs xs loc) {k : Nat} (hf : σ.free k) : σ.hp.heap k = none ∧ loc k = none := by
  refine ⟨?_, h.dom k hf.2⟩
  cases hh : σ.hp.heap k with
  | none => rfl
  | some b => have := h.liveU k (by simp [Live, hh]); rw [hf.2] at this; cases this

theorem ok_renew {k : Nat} {b : Blk} (h : RepL P c σ ρ w vs xs loc) (o : Obj) (δ : Nat) (n : Nat) (hn : okOf c w σ.hp loc n) :
    okOf c (w.alloc o) ((σ.hp.kill k).set k b) (upd loc k (some (w.heap.size, δ))) n ∧ (w.alloc o).heap[n]? = w.heap[n]? := by
  obtain ⟨h1, h2, h3⟩ := hn
  refine ⟨⟨by simp; omega, h2, fun id δ' hl => ?_⟩, (ExtW.alloc w o).block n h1⟩
  by_cases hid : id = k
  · subst hid; simp [upd]; omega
  · simp only [upd, hid, if_false]
    refine h3 id δ' ?_
    simp only [Live, HP.set, HP.kill, upd, hid, if_false] at hl ⊢
    intro he; apply hl; simp [he]

/-- A new block: the state afterwards, the new block's content being known in the new world. -/
theorem RepL.renew (h : RepL P c σ ρ w vs xs loc) (k : Nat) (h100 : (100 ≤ k ∧ k < 1000000000000)) (hku : σ.used k = true) (b : Blk) (o : Obj) (δ : Nat)
    (hb : RepB P (w.alloc o) (okOf c (w.alloc o) ((σ.hp.kill k).set k b) (upd loc k (some (w.heap.size, δ)))) (upd loc k (some (w.heap.size, δ))) k b) :
    RepL P c (σ.renew k b) ρ (w.alloc o) vs (xs.map (AV.kill k)) (upd loc k (some (w.heap.size, δ))) := by
  have hl' : ∀ id, id ≠ k → upd loc k (some (w.heap.size, δ)) id = loc id := fun id hne => by simp [upd, hne]
  have live : ∀ id, id ≠ k → Live ((σ.hp.kill k).set k b) id → Live σ.hp id := fun id hne hl => by
    simp only [Live, HP.set, HP.kill, upd, hne, if_false] at hl ⊢
    intro he; apply hl; simp [he]
  refine ⟨fun s => (h.slots s).mono_kill (ok_renew h o δ) (Shapes.of_ext (ExtW.alloc w o)) k hl', by simpa using h.len, fun i v x hv hx => ?_, fun id blk hblk => ?_, ?_, ?_, h.ext.step (ExtW.alloc w o), fun id hid => by rw [hl' id (by omega)]; exact h.fix id hid, fun id hid => ?_, fun id hl => ?_⟩
  · simp only [List.getElem?_map, Option.map_eq_some_iff] at hx
    obtain ⟨x', hx', rfl⟩ := hx
    exact (h.vals i v x' hv hx').mono_kill (ok_renew h o δ) (Shapes.of_ext (ExtW.alloc w o)) k hl'
  · by_cases hid : id = k
    · subst hid
      simp only [AS.renew, HP.set, upd, if_true, Option.some.injEq] at hblk
      subst hblk; exact hb
    · simp only [AS.renew, HP.set, HP.kill, upd, hid, if_false, Option.map_eq_some_iff] at hblk
      obtain ⟨blk', hblk', rfl⟩ := hblk
      refine (h.heap id blk' hblk').mono_kill hid (ok_renew h o δ) (Shapes.of_ext (ExtW.alloc w o)) hl' fun b' δ' he => ?_
      exact (ExtW.alloc w o).block b' (h.own id b' δ' (by simp [Live, hblk']) he).1
  · intro id id' b' δ1 δ2 hl1 hl2 he1 he2
    by_cases h1 : id = k <;> by_cases h2 : id' = k
    · rw [h1, h2]
    · simp only [AS.renew] at hl2
      have := (h.own id' b' δ2 (live id' h2 hl2) (by rwa [hl' _ h2] at he2)).1
      rw [h1] at he1; simp [upd] at he1; omega
    · simp only [AS.renew] at hl1
      have := (h.own id b' δ1 (live id h1 hl1) (by rwa [hl' _ h1] at he1)).1
      rw [h2] at he2; simp [upd] at he2; omega
    · exact h.inj id id' b' δ1 δ2 (live id h1 hl1) (live id' h2 hl2) (by rwa [hl' _ h1] at he1) (by rwa [hl' _ h2] at he2)
  · intro id b' δ1 hl1 he1
    by_cases h1 : id = k
    · subst h1
      simp only [upd, if_true, Option.some.injEq, Prod.mk.injEq] at he1
      obtain ⟨rfl, rfl⟩ := he1
      refine ⟨by simp, fun ho => ?_, .inl h.ext.size⟩
      have := c.lt _ ho; have := h.ext.size; omega
    · obtain ⟨g1, g2, g3⟩ := h.own id b' δ1 (live id h1 hl1) (by rwa [hl' _ h1] at he1)
      exact ⟨by simp; omega, g2, g3⟩
  · have hne : id ≠ k := fun he => by subst he; simp only [AS.renew] at hid; rw [hku] at hid; cases hid
    rw [hl' id hne]; exact h.dom id hid
  · by_cases hid : id = k
    · rw [hid]; exact hku
    · exact h.liveU id (live id hid hl)

theorem ok_new {k : Nat} {b : Blk} (h : RepL P c σ ρ w vs xs loc) (hf : σ.free k) (o : Obj) (δ : Nat) (n : Nat) (hn : okOf c w σ.hp loc n) :
    okOf c (w.alloc o) (σ.hp.set k b) (upd loc k (some (w.heap.size, δ))) n ∧ (w.alloc o).heap[n]? = w.heap[n]? := by
  obtain ⟨h1, h2, h3⟩ := hn
  refine ⟨⟨by simp; omega, h2, fun id δ' hl => ?_⟩, (ExtW.alloc w o).block n h1⟩
  by_cases hid : id = k
  · subst hid; simp [upd]; omega
  · simp only [upd, hid, if_false]
    exact h3 id δ' (by simpa only [Live, HP.set, upd, hid, if_false] using hl)

/-- A new block: the state afterwards, the new block's content being known in the new world. -/
theorem RepL.new (h : RepL P c σ ρ w vs xs loc) (k : Nat) (hf : σ.free k) (b : Blk) (o : Obj) (δ : Nat)
    (hb : RepB P (w.alloc o) (okOf c (w.alloc o) (σ.hp.set k b) (upd loc k (some (w.heap.size, δ)))) (upd loc k (some (w.heap.size, δ))) k b) :
    RepL P c (σ.new k b) ρ (w.alloc o) vs xs (upd loc k (some (w.heap.size, δ))) := by
  obtain ⟨hk0, hl0⟩ := h.free_heap hf
  have hl' : ∀ id, id ≠ k → upd loc k (some (w.heap.size, δ)) id = loc id := fun id hne => by simp [upd, hne]
  have hext : ∀ id q, loc id = some q → upd loc k (some (w.heap.size, δ)) id = some q := fun id q hq => by
    have : id ≠ k := fun he => by rw [he, hl0] at hq; cases hq
    rw [hl' id this]; exact hq
  have live : ∀ id, id ≠ k → Live (σ.hp.set k b) id → Live σ.hp id := fun id hne hl => by simpa only [Live, HP.set, upd, hne, if_false] using hl
  refine ⟨fun s => (h.slots s).mono_ext (ok_new h hf o δ) (Shapes.of_ext (ExtW.alloc w o)) hext, h.len, fun i v x hv hx => (h.vals i v x hv hx).mono_ext (ok_new h hf o δ) (Shapes.of_ext (ExtW.alloc w o)) hext, fun id blk hblk => ?_, ?_, ?_, h.ext.step (ExtW.alloc w o),
    fun id hid => by rw [hl' id (by have := hf.1; omega)]; exact h.fix id hid, fun id hid => ?_, fun id hl => ?_⟩
  · by_cases hid : id = k
    · subst hid
      simp only [AS.new, HP.set, upd, if_true, Option.some.injEq] at hblk
      subst hblk; exact hb
    · simp only [AS.new, HP.set, upd, hid, if_false] at hblk
      have hB := h.heap id blk hblk
      have hbl : ∀ b' δ', loc id = some (b', δ') → (w.alloc o).heap[b']? = w.heap[b']? := fun b' δ' he => (ExtW.alloc w o).block b' (h.own id b' δ' (by simp [Live, hblk]) he).1
      cases hB with
      | bx g1 g2 g3 g4 => exact .bx (hext _ _ g1) ((hbl _ _ g1).trans g2) g3 fun i v y hv hy => (g4 i v y hv hy).mono_ext (ok_new h hf o δ) (Shapes.of_ext (ExtW.alloc w o)) hext
      | ar0 sz g1 => exact .ar0 sz ((hl' id hid).trans g1)
      | ar us g1 g2 g3 g4 g5 g6 => exact .ar us (hext _ _ g1) ((hbl _ _ g1).trans g2) g3 g4 g5 fun i j x y hx hy => (g6 i j x y hx hy).mono (ok_new h hf o δ)
      | mb g1 g2 g3 g4 => exact .mb (hext _ _ g1) ((hbl _ _ g1).trans g2) g3 fun i e p he hp => ⟨(g4 i e p he hp).1.mono (ok_new h hf o δ), (g4 i e p he hp).2.mono (ok_new h hf o δ)⟩
  · intro id id' b' δ1 δ2 hl1 hl2 he1 he2
    by_cases h1 : id = k <;> by_cases h2 : id' = k
    · rw [h1, h2]
    · have := (h.own id' b' δ2 (live id' h2 hl2) (by rwa [hl' _ h2] at he2)).1
      rw [h1] at he1; simp [upd] at he1; omega
    · have := (h.own id b' δ1 (live id h1 hl1) (by rwa [hl' _ h1] at he1)).1
      rw [h2] at he2; simp [upd] at he2; omega
    · exact h.inj id id' b' δ1 δ2 (live id h1 hl1) (live id' h2 hl2) (by rwa [hl' _ h1] at he1) (by rwa [hl' _ h2] at he2)
  · intro id b' δ1 hl1 he1
    by_cases h1 : id = k
    · subst h1
      simp only [upd, if_true, Option.some.injEq, Prod.mk.injEq] at he1
      obtain ⟨rfl, rfl⟩ := he1
      refine ⟨by simp, fun ho => ?_, .inl h.ext.size⟩
      have := c.lt _ ho; have := h.ext.size; omega
    · obtain ⟨g1, g2, g3⟩ := h.own id b' δ1 (live id h1 hl1) (by rwa [hl' _ h1] at he1)
      exact ⟨by simp; omega, g2, g3⟩
  · have hne : id ≠ k := fun he => by subst he; simp [AS.new, upd] at hid
    rw [hl' id hne]
    exact h.dom id (by simpa only [AS.new, upd, hne, if_false] using hid)
  · by_cases hid : id = k
    · subst hid; simp [AS.new, upd]
    · simp only [AS.new, upd, hid, if_false]
      exact h.liveU id (live id hid hl)

/-- One live block is written; what it holds afterwards is known. -/
theorem RepL.write (h : RepL P c σ ρ w vs xs loc) (k : Nat) (b : Nat) (δ : Nat) (blk : Blk) (hlive : Live σ.hp k) (hloc : loc k = some (b, δ))
    (hs : Shapes w w') (hw : w'.os = w.os ∧ w'.tape = w.tape ∧ w'.output = w.output) (hsz : w'.heap.size = w.heap.size)
    (hother : ∀ n, n ≠ b → w'.heap[n]? = w.heap[n]?)
    (hb : (∀ n, okOf c w σ.hp loc n → okOf c w' (σ.hp.set k blk) loc n ∧ w'.heap[n]? = w.heap[n]?) → RepB P w' (okOf c w' (σ.hp.set k blk) loc) loc k blk) :
    RepL P c { σ with hp := σ.hp.set k blk } ρ w' vs xs loc := by
  have live : ∀ id, Live (σ.hp.set k blk) id → Live σ.hp id := fun id hl => by
    by_cases hid : id = k
    · rw [hid]; exact hlive
    · simpa only [Live, HP.set, upd, hid, if_false] using hl
  have hk : ∀ n, okOf c w σ.hp loc n → okOf c w' (σ.hp.set k blk) loc n ∧ w'.heap[n]? = w.heap[n]? := fun n ⟨h1, h2, h3⟩ =>
    ⟨⟨by omega, h2, fun id δ' hl => h3 id δ' (live id hl)⟩, hother n fun he => h3 k δ hlive (he ▸ hloc)⟩
  obtain ⟨o1, o2, o3⟩ := h.own k b δ hlive hloc
  refine ⟨fun s => (h.slots s).mono hk hs, h.len, fun i v x hv hx => (h.vals i v x hv hx).mono hk hs, fun id blk' hblk => ?_,
    fun id id' b' δ1 δ2 hl1 hl2 => h.inj id id' b' δ1 δ2 (live id hl1) (live id' hl2), fun id b' δ1 hl he => ?_, ?_, h.fix, h.dom, fun id hl => h.liveU id (live id hl)⟩
  · by_cases hid : id = k
    · subst hid
      simp only [HP.set, upd, if_true, Option.some.injEq] at hblk
      subst hblk; exact hb hk
    · simp only [HP.set, upd, hid, if_false] at hblk
      refine (h.heap id blk' hblk).mono hk hs fun b' δ' he => hother b' fun hbb => hid ?_
      exact h.inj id k b δ' δ (by simp [Live, hblk]) hlive (hbb ▸ he) hloc
  · obtain ⟨g1, g2, g3⟩ := h.own id b' δ1 (live id hl) he
    exact ⟨by omega, g2, g3⟩
  · refine ⟨hw.1.trans h.ext.os, hw.2.1.trans h.ext.tape, hw.2.2.trans h.ext.output, by have := h.ext.size; omega, fun n hn hm => ?_, h.ext.shape.trans hs⟩
    rw [hother n fun he => ?_]
    · exact h.ext.block n hn hm
    · subst he; rcases o3 with o3 | o3
      · omega
      · exact hm o3

theorem setCell_heap_same {b i : Nat} {c : Array Value} {T : TypeId} {fz : Nat × Nat} {v : Value} (h : w.heap[b]? = some (.cells c T fz)) :
    (w.setCell ⟨b, i, none⟩ v).heap[b]? = some (.cells (c.setIfInBounds i v) T fz) := by
  simp [World.setCell, Array.getElem?_modify, h]

theorem setCell_shapes (b i : Nat) (v : Value) : Shapes w (w.setCell ⟨b, i, none⟩ v) := fun n c T fz h => by
  by_cases hn : n = b
  · subst hn; exact ⟨_, T, fz, setCell_heap_same h, by simp⟩
  · exact ⟨c, T, fz, by simp [World.setCell, Array.getElem?_modify, Ne.symm hn, h], rfl⟩

theorem setCell_heap_other {b i n : Nat} {v : Value} (h : n ≠ b) : (w.setCell ⟨b, i, none⟩ v).heap[n]? = w.heap[n]? := by
  simp [World.setCell, Array.getElem?_modify, Ne.symm h]

end
end Go.Fw

/- Operations that read and reckon, and leave the world alone: what they yield, and that they do. -/
namespace Go.Fw
open Go

/-! ### The program's types, as far as they are asked -/

/-- Of a type: is it a struct or an array; how many cells; the zero value's cells. -/
def tI (P : Program) (t : TypeId) : Option (Bool × Nat × List Value) :=
  match P.underlying t, P.info? t with
  | some u, some i => match i.zero with
    | some z => some ((match u with | .struct _ => true | .array _ _ => true | _ => false), i.size, z.cells.toList)
    | none => none
  | _, _ => none

/-- Where a field lies in its struct. -/
def tField (P : Program) (t : TypeId) (f : Nat) : Option Nat :=
  match P.underlying t with
  | some (.struct fs) => match fs[f]? with
    | some fl => match P.info? fl.type with
      | some i => if i.size = 0 then none else some fl.offset
      | none => none
    | none => none
  | _ => none

/-- A slice type's element: its cells, its bytes, its type. -/
def tElem (P : Program) (t : TypeId) : Option (Nat × Nat × TypeId) :=
  match P.underlying t with
  | some (.slice e) => match P.info? e with
    | some i => some (i.size, i.bytes, e)
    | none => none
  | _ => none

/-- An array type: its length, its elements' cells, are these aggregates. -/
def tArr (P : Program) (t : TypeId) : Option (Nat × Nat × Bool) :=
  match P.underlying t with
  | some (.array n e) => match P.info? e, P.underlying e with
    | some i, some u => some (n, i.size, match u with | .struct _ => true | .array _ _ => true | _ => false)
    | _, _ => none
  | _ => none

def tStr (P : Program) (t : TypeId) : Bool := P.underlying t matches some .string
def tBool (P : Program) (t : TypeId) : Bool := P.underlying t matches some .bool
def D.isU8 : D → Bool
  | .int .u8 _ => true
  | _ => false
def D.u8 : D → UInt8
  | .int _ n => UInt8.ofNat n.toNat
  | _ => 0
/-- An integer type's kind. -/
def tInt (P : Program) (t : TypeId) : Option IntKind := match P.underlying t with | some (.int k) => some k | _ => none

/-- A slice of bytes. -/
def tByteSl (P : Program) (t : TypeId) : Bool := match P.underlying t with | some (.slice e) => (match tInt P e with | some .u8 => true | _ => false) | _ => false

section
variable {P : Program} {w : World}

theorem tI_runs {t : TypeId} {a : Bool} {n : Nat} {z : List Value} (h : tI P t = some (a, n, z)) :
    (isAgg t).run P w = .ok a w ∧ (sizeOf t).run P w = .ok n w ∧ ∃ v, (zeroValue t).run P w = .ok v w ∧ v.cells.toList = z := by
  unfold tI at h
  split at h
  · rename_i u i hu hi
    split at h
    · rename_i zv hz
      simp only [Option.some.injEq, Prod.mk.injEq] at h
      obtain ⟨h1, h2, h3⟩ := h
      refine ⟨?_, ?_, zv, ?_, h3⟩
      · simp only [isAgg, underlying, program, Bind.bind, Sem.bind, Sem.run, hu, Pure.pure]
        rw [← h1]; cases u <;> rfl
      · simp [sizeOf, typeInfo, hi, h2]
      · simp [zeroValue, typeInfo, hi, hz]
    · simp at h
  · simp at h

theorem tElem_und {t : TypeId} {n by' : Nat} {e : TypeId} (h : tElem P t = some (n, by', e)) :
    P.underlying t = some (.slice e) ∧ ∃ i, P.info? e = some i ∧ i.size = n ∧ i.bytes = by' := by
  unfold tElem at h
  split at h
  · rename_i e' he
    split at h
    · rename_i i hi
      simp only [Option.some.injEq, Prod.mk.injEq] at h
      obtain ⟨h1, h2, rfl⟩ := h
      exact ⟨he, i, hi, h1, h2⟩
    · simp at h
  · simp at h

theorem run_underlying' {t : TypeId} {u : TypeDesc} (h : P.underlying t = some u) : (underlying t).run P w = .ok u w := by
  simp [underlying, h]
theorem run_sizeOf' {t : TypeId} {i : TypeInfo} (h : P.info? t = some i) : (sizeOf t).run P w = .ok i.size w := by
  simp [sizeOf, typeInfo, h]
end

/-! ### Values of operations -/

abbrev PA := Prop × AV

def AV.strip : AV → PA
  | .op b x => (b = true, x)
  | x => (True, x)

/-- A value that is there only if 'g' holds. -/
def mkOp (g : Bool) : AV → AV
  | .op g' x => .op (g && g') x
  | x => .op g x

/-- The whole as one datum, if all cells are data. -/
def AV.allD : List AV → Option (List D)
  | [] => some []
  | .d x :: r => (AV.allD r).map (x :: ·)
  | _ :: _ => none
def mkAg (cs : List AV) : AV := match AV.allD cs with | some ds => .d (.agg ds) | none => .ag cs

def D.dflt : D := .bool false

def ofVal : Value → AV
  | .int k n => .d (.int k n)
  | .bool b => .d (.bool b)
  | .string s => .d (.str s.data.toList)
  | .slice a n c => if a = none ∧ n = 0 ∧ c = 0 then .nl else .unk
  | _ => .unk

def fPickC (p0 : Prop) (c : Bool) (a b : AV) : PA :=
  match a.strip, b.strip with
  | (p, .d (.bool x)), (q, .d (.bool y)) => (p0 ∧ (c = true → p) ∧ (c = false → q), .d (.bool (bif c then x else y)))
  | _, _ => match c with
    | true => (p0 ∧ a.strip.1, a.strip.2)
    | false => (p0 ∧ b.strip.1, b.strip.2)
def fPick (c a b : AV) : PA :=
  match c.strip with
  | (p0, .d (.bool c)) => fPickC p0 c a b
  | _ => (False, .unk)

def bitsV (op : BinOp) (k : IntKind) (x y : Int) : Int :=
  let a := BitVec.ofInt k.bits x
  let b := BitVec.ofInt k.bits y
  match op with
  | .and => k.wrap (a &&& b).toNat
  | .or => k.wrap (a ||| b).toNat
  | .xor => k.wrap (a ^^^ b).toNat
  | _ => k.wrap (a &&& ~~~b).toNat

def shiftV (op : BinOp) (k : IntKind) (x y : Int) : Int :=
  let n := min y.toNat k.bits
  match op with
  | .shl => k.wrap (x * 2 ^ n)
  | _ => x.fdiv (2 ^ n)

def fBinInt (op : BinOp) (k : IntKind) (a : Int) (k' : IntKind) (b : Int) : PA :=
  match op with
  | .add => (k = k', .d (.int k (k.wrap (a + b))))
  | .sub => (k = k', .d (.int k (k.wrap (a - b))))
  | .mul => (k = k', .d (.int k (k.wrap (a * b))))
  | .quo => (k = k' ∧ b ≠ 0, .d (.int k (k.wrap (a.tdiv b))))
  | .rem => (k = k' ∧ b ≠ 0, .d (.int k (a.tmod b)))
  | .and => (k = k', .d (.int k (bitsV .and k a b)))
  | .or => (k = k', .d (.int k (bitsV .or k a b)))
  | .xor => (k = k', .d (.int k (bitsV .xor k a b)))
  | .andNot => (k = k', .d (.int k (bitsV .andNot k a b)))
  | .shl => (0 ≤ b, .d (.int k (shiftV .shl k a b)))
  | .shr => (0 ≤ b, .d (.int k (shiftV .shr k a b)))
  | .eql => (k = k', .d (.bool (a == b)))
  | .neq => (k = k', .d (.bool (a != b)))
  | .lss => (k = k', .d (.bool (decide (a < b))))
  | .leq => (k = k', .d (.bool (decide (a ≤ b))))
  | .gtr => (k = k', .d (.bool (decide (a > b))))
  | .geq => (k = k', .d (.bool (decide (a ≥ b))))

def fBinStr (op : BinOp) (a b : List UInt8) : PA :=
  match op with
  | .add => (a.length + b.length ≤ 9223372036854775807, .d (.str (a ++ b)))
  | .eql => (True, .d (.bool (a == b)))
  | .neq => (True, .d (.bool (!(a == b))))
  | .lss => (True, .d (.bool (Op.bytesLess a b)))
  | .leq => (True, .d (.bool (Op.bytesLess a b || a == b)))
  | .gtr => (True, .d (.bool (!(Op.bytesLess a b || a == b))))
  | .geq => (True, .d (.bool (!Op.bytesLess a b)))
  | _ => (False, .unk)

/-- The kinds of a struct's fields, all of them integers, that lie from place 'i' on. -/
def fieldKinds (P : Program) : Nat → List Field → Option (List IntKind)
  | _, [] => some []
  | i, f :: r => if f.name != "_" && f.offset == i then match tInt P f.type, fieldKinds P (i + 1) r with
    | some k, some ks => some (k :: ks)
    | _, _ => none
    else none
/-- A struct, or an array, of integers: their kinds. -/
def tEqS (P : Program) (t : TypeId) : Option (List IntKind) :=
  match P.underlying t with
  | some (.struct fs) => if P.stoodInHeld t = false ∧ P.eqGuardType P.depth t = false then fieldKinds P 0 fs.toList else none
  | some (.array n e) => if P.eqGuardType P.depth t = false ∧ (P.info? e).isSome = true ∧ P.cellsOf e = 1 then (tInt P e).map (List.replicate n) else none
  | _ => none
def aggOk : List IntKind → List D → Prop
  | [], [] => True
  | k :: r, .int k' _ :: s => k' = k ∧ aggOk r s
  | _, _ => False
def aggEq : List D → List D → Bool
  | .int _ a :: r, .int _ b :: s => (a == b) && aggEq r s
  | [], [] => true
  | _, _ => false
def fAggEq (op : BinOp) (ks : Option (List IntKind)) (a b : List D) : PA :=
  match ks with
  | some ks => match op with
    | .eql => (aggOk ks a ∧ aggOk ks b, .d (.bool (aggEq a b)))
    | .neq => (aggOk ks a ∧ aggOk ks b, .d (.bool (!aggEq a b)))
    | _ => (False, .unk)
  | none => (False, .unk)

def fBin (P : Program) (op : BinOp) (t : TypeId) : AV → AV → PA
  | .d (.int k a), .d (.int k' b) => fBinInt op k a k' b
  | .d (.str a), .d (.str b) => fBinStr op a b
  | .d (.bool a), .d (.bool b) => match op with
    | .eql => (tBool P t = true, .d (.bool (a == b)))
    | .neq => (tBool P t = true, .d (.bool (!(a == b))))
    | _ => (False, .unk)
  | .d (.agg a), .d (.agg b) => fAggEq op (tEqS P t) a b
  | _, _ => (False, .unk)

def fUn (op : UnOp) : AV → PA
  | .d (.bool b) => match op with | .not => (True, .d (.bool (!b))) | _ => (False, .unk)
  | .d (.int k n) => match op with | .neg => (True, .d (.int k (k.wrap (-n)))) | _ => (False, .unk)
  | _ => (False, .unk)

def fConv (P : Program) (s t : TypeId) : AV → PA
  | .d (.int _ n) => match tInt P t with
    | some k' => ((P.underlying s).isSome = true, .d (.int k' (k'.wrap n)))
    | none => (False, .unk)
  | _ => (False, .unk)

/-- One cell, or so many of them as an aggregate. -/
def pickCells (agg : Bool) (n : Nat) (cs : List AV) : PA :=
  if agg then (n ≤ cs.length, mkAg (cs.take n)) else match cs with | x :: _ => (True, x) | [] => (False, .unk)

def fLoad (P : Program) (t : TypeId) (hp : HP) : AV → PA
  | .ptr id off => match hp.heap id, tI P t with
    | some (.bx cs), some (a, n, _) => pickCells a n (cs.drop off)
    | _, _ => (False, .unk)
  | .dp cs => match tI P t with
    | some (a, n, _) => pickCells a n cs
    | none => (False, .unk)
  | .ep sz id i off => match hp.heap id, tI P t with
    | some (.ar sz' xs), some (a, n, _) =>
      ((i < xs.length ∧ sz = sz') ∧ (pickCells a n (((xs.getD i D.dflt).cells.drop off).map .d)).1, (pickCells a n (((xs.getD i D.dflt).cells.drop off).map .d)).2)
    | some (.bx cs), some (a, n, _) => pickCells a n (cs.drop (i * sz + off))
    | _, _ => (False, .unk)
  | _ => (False, .unk)

def fField (P : Program) (t : TypeId) (f : Nat) : AV → PA
  | .ptr id off => match tField P t f with | some o => (True, .ptr id (off + o)) | none => (False, .unk)
  | .ep sz id i off => match tField P t f with | some o => (True, .ep sz id i (off + o)) | none => (False, .unk)
  | .dp cs => match tField P t f with | some o => (True, .dp (cs.drop o)) | none => (False, .unk)
  | _ => (False, .unk)

def fIdx (P : Program) (t : TypeId) : AV → AV → PA
  | .d (.list xs), .d (.int _ n) => match tElem P t with
    | some (es, _, _) => (0 ≤ n ∧ n < xs.length ∧ (xs.getD n.toNat D.dflt).cells.length = es, .dp ((xs.getD n.toNat D.dflt).cells.map .d))
    | none => (False, .unk)
  | .sl sz id off len, .d (.int _ n) => match tElem P t with
    | some (es, _, _) => (0 ≤ n ∧ n < len ∧ es = sz, .ep sz id (off + n.toNat) 0)
    | none => (False, .unk)
  | .ptr id off, .d (.int _ n) => match tArr P t with
    | some (len, es, _) => (0 ≤ n ∧ n < len, .ptr id (off + n.toNat * es))
    | none => (False, .unk)
  | .dp cs, .d (.int _ n) => match tArr P t with
    | some (len, es, _) => (0 ≤ n ∧ n < len, .dp (cs.drop (n.toNat * es)))
    | none => (False, .unk)
  | _, _ => (False, .unk)

/-- 's[i]' of a string; 'a[i]' of an array that is a value. -/
def fIndex (P : Program) (t : TypeId) : AV → AV → PA
  | .d (.str s), .d (.int _ n) => (tStr P t = true ∧ 0 ≤ n ∧ n < s.length, .d (.int .u8 ((s.getD n.toNat 0).toNat : Int)))
  | .d (.agg cs), .d (.int _ n) => match tArr P t with
    | some (len, 1, false) => (0 ≤ n ∧ n < len ∧ len = cs.length, .d (cs.getD n.toNat D.dflt))
    | _ => (False, .unk)
  | _, _ => (False, .unk)

def fLen (P : Program) (t : TypeId) : AV → PA
  | .d (.str s) => (tStr P t = true, .d (.int .i64 s.length))
  | .d (.list xs) => match tElem P t with | some _ => (True, .d (.int .i64 xs.length)) | none => (False, .unk)
  | .sl _ _ _ len => match tElem P t with | some _ => (True, .d (.int .i64 len)) | none => (False, .unk)
  | .nl => match tElem P t with | some _ => (True, .d (.int .i64 0)) | none => (False, .unk)
  | _ => (False, .unk)

/-- A bound of 'x[lo:hi]': none, or a number. -/
def bnd (dflt : Int) : Option AV → Option Int
  | none => some dflt
  | some (.d (.int _ n)) => some n
  | _ => none

def fSlice (P : Program) (t : TypeId) (x : AV) (lo hi : Option AV) : PA :=
  match x with
  | .d (.str s) => match bnd 0 lo, bnd s.length hi with
    | some l, some h => (tStr P t = true ∧ 0 ≤ l ∧ l ≤ h ∧ h ≤ s.length, .d (.str ((s.take h.toNat).drop l.toNat)))
    | _, _ => (False, .unk)
  | .d (.list xs) => match bnd 0 lo, bnd xs.length hi, tElem P t with
    | some l, some h, some (es, _, _) => (0 ≤ l ∧ l ≤ h ∧ h ≤ xs.length ∧ (l < h → (xs.getD l.toNat D.dflt).cells.length = es), .d (.list ((xs.take h.toNat).drop l.toNat)))
    | _, _, _ => (False, .unk)
  | .sl sz id off len => match bnd 0 lo, bnd len hi, tElem P t with
    | some l, some h, some (es, _, _) => (0 ≤ l ∧ l ≤ h ∧ h ≤ len ∧ es = sz, .sl sz id (off + l.toNat) (h.toNat - l.toNat))
    | _, _, _ => (False, .unk)
  | _ => (False, .unk)

def fExtract (i : Nat) : AV → PA
  | .tp cs => match cs[i]? with | some x => (True, x) | none => (False, .unk)
  | _ => (False, .unk)

def fNil : AV → PA
  | .ptr id off => (True, .ptr id off)
  | .ep sz id i off => (True, .ep sz id i off)
  | .dp cs => (True, .dp cs)
  | _ => (False, .unk)

end Go.Fw

/- Operations that read and reckon: they yield what is said of them. -/
namespace Go.Fw
open Go

section
variable {P : Program} {w : World} {ok : Nat → Prop} {loc : Nat → Option (Nat × Nat)}

theorem RepA.inv_int {v : Value} {k : IntKind} {n : Int} (h : RepA P w ok loc v (.d (.int k n))) : v = .int k n := by
  cases h with | d h => cases h; rfl
theorem RepA.inv_bool {v : Value} {b : Bool} (h : RepA P w ok loc v (.d (.bool b))) : v = .bool b := by
  cases h with | d h => cases h; rfl
theorem RepA.inv_str {v : Value} {s : List UInt8} (h : RepA P w ok loc v (.d (.str s))) : v = .string ⟨s.toArray⟩ := by
  cases h with | d h => cases h; rfl
theorem RepA.int (k : IntKind) (n : Int) : RepA P w ok loc (.int k n) (.d (.int k n)) := .d (.int k n)
theorem RepA.bool (b : Bool) : RepA P w ok loc (.bool b) (.d (.bool b)) := .d (.bool b)
theorem RepA.str (s : List UInt8) : RepA P w ok loc (.string ⟨s.toArray⟩) (.d (.str s)) := .d (.str s)

theorem RepA.strip {v : Value} {x : AV} (h : RepA P w ok loc v x) (hs : x.strip.1) : RepA P w ok loc v x.strip.2 := by
  cases h with
  | op h _ => exact h hs
  | unk v => exact .unk v
  | d h => exact .d h
  | nl => exact .nl
  | ptr h => exact .ptr h
  | sl0 b s i o => exact .sl0 b s i o
  | sl h1 h2 h3 h4 h5 => exact .sl h1 h2 h3 h4 h5
  | ep h => exact .ep h
  | dp u h1 h2 h3 h4 => exact .dp u h1 h2 h3 h4
  | ag h1 h2 => exact .ag h1 h2
  | tp h1 h2 => exact .tp h1 h2
  | fv h1 h2 h3 h4 => exact .fv h1 h2 h3 h4
  | clo h => exact .clo h
  | mp h => exact .mp h

theorem RepA.mkOp {v : Value} {g : Bool} {x : AV} (h : RepA P w ok loc v (.op g x)) : RepA P w ok loc v (Fw.mkOp g x) := by
  unfold Fw.mkOp
  split
  · rename_i g' y
    cases h with | op h1 h2 =>
    cases g
    · exact .op (fun h => by cases h) fun _ => h2 rfl
    · have := h1 rfl
      cases this with | op h3 h4 => exact .op (fun h => h3 h) fun h => h4 h
  · exact h

theorem allD_get {cs : List AV} {ds : List D} (h : AV.allD cs = some ds) : ds.length = cs.length ∧ ∀ (i : Nat) (y : D), ds[i]? = some y → cs[i]? = some (AV.d y) := by
  induction cs generalizing ds with
  | nil => simp only [AV.allD, Option.some.injEq] at h; subst h; exact ⟨rfl, fun i y hy => by simp at hy⟩
  | cons x r ih =>
    cases x <;> simp only [AV.allD] at h <;> first | (cases h; done) | skip
    simp only [Option.map_eq_some_iff] at h
    obtain ⟨ds', h', rfl⟩ := h
    obtain ⟨i1, i2⟩ := ih h'
    refine ⟨by simp [i1], fun i y hy => ?_⟩
    cases i with
    | zero => simp at hy ⊢; exact hy
    | succ i => simp at hy ⊢; exact i2 i y hy

theorem RepA.mkAg {vs : Array Value} {cs : List AV} (hl : vs.size = cs.length) (h : ∀ (i : Nat) v y, vs[i]? = some v → cs[i]? = some y → RepA P w ok loc v y) :
    RepA P w ok loc (.agg vs) (mkAg cs) := by
  unfold Fw.mkAg
  split
  · rename_i ds hds
    obtain ⟨h1, h2⟩ := allD_get hds
    refine .d (.agg (by omega) fun i v y hv hy => ?_)
    have := h i v _ hv (h2 i y hy)
    cases this with | d h => exact h
  · exact .ag hl h

theorem RepA.ofVal (v : Value) : RepA P w ok loc v (ofVal v) := by
  cases v <;> simp only [Fw.ofVal] <;> try with_reducible exact .unk _
  · exact .bool _
  · exact .int _ _
  · rename_i s; exact RepA.str s.data.toList
  · rename_i a len cap
    split
    · rename_i e; obtain ⟨rfl, rfl, rfl⟩ := e; exact .nl
    · exact .unk _

theorem Addr.add_none (b off n : Nat) : (⟨b, off, none⟩ : Addr).add n = ⟨b, off + n, none⟩ := by
  unfold Addr.add; split
  · rename_i h; subst h; rfl
  · rfl

theorem cell_of_block {b i : Nat} {c : Array Value} {T : TypeId} {fz : Nat × Nat} (h : w.heap[b]? = some (.cells c T fz)) : w.cell? ⟨b, i, none⟩ = c[i]? := by
  simp [World.cell?, h]

theorem s_pick {c a b : AV} {vc va vb : Value} (h : (fPick c a b).1) (hc : RepA P w ok loc vc c) (ha : RepA P w ok loc va a) (hb : RepA P w ok loc vb b) :
    ∃ x, vc = .bool x ∧ RepA P w ok loc (if x then va else vb) (fPick c a b).2 := by
  unfold fPick at h ⊢
  split at h
  · rename_i p0 x e0
    unfold fPickC at h ⊢
    have hx : p0 → vc = .bool x := fun hp => by
      have := hc.strip (by rw [e0]; exact hp)
      rw [e0] at this; exact this.inv_bool
    split at h
    · rename_i p x' q y' e1 e2
      simp only at h
      refine ⟨x, hx h.1, ?_⟩
      cases x
      · have := hb.strip (by rw [e2]; exact h.2.2 rfl)
        rw [e2] at this; have := this.inv_bool; subst this; exact .bool _
      · have := ha.strip (by rw [e1]; exact h.2.1 rfl)
        rw [e1] at this; have := this.inv_bool; subst this; exact .bool _
    · cases x
      · exact ⟨false, hx h.1, hb.strip h.2⟩
      · exact ⟨true, hx h.1, ha.strip h.2⟩
  · exact h.elim

theorem run_binOp_int (op : BinOp) (t : TypeId) (k k' : IntKind) (a b : Int) (h : (fBinInt op k a k' b).1) :
    ∃ v, (binOp op t (.int k a) (.int k' b)).run P w = .ok v w ∧ RepA P w ok loc v (fBinInt op k a k' b).2 := by
  cases op <;> simp only [fBinInt] at h ⊢
  case shl =>
    have h' : ¬ b < 0 := by omega
    exact ⟨_, by simp only [binOp, Op.shift, if_neg h']; rfl, .int _ _⟩
  case shr =>
    have h' : ¬ b < 0 := by omega
    exact ⟨_, by simp only [binOp, Op.shift, if_neg h']; rfl, .int _ _⟩
  case quo => obtain ⟨rfl, h⟩ := h; exact ⟨_, by simp only [binOp, Op.intDiv, if_neg h, ne_eq, not_true_eq_false, if_false]; rfl, .int _ _⟩
  case rem => obtain ⟨rfl, h⟩ := h; exact ⟨_, by simp only [binOp, Op.intDiv, if_neg h, ne_eq, not_true_eq_false, if_false]; rfl, .int _ _⟩
  case and => subst h; exact ⟨_, by simp only [binOp, Op.intBits, ne_eq, not_true_eq_false, if_false]; rfl, .int _ _⟩
  case or => subst h; exact ⟨_, by simp only [binOp, Op.intBits, ne_eq, not_true_eq_false, if_false]; rfl, .int _ _⟩
  case xor => subst h; exact ⟨_, by simp only [binOp, Op.intBits, ne_eq, not_true_eq_false, if_false]; rfl, .int _ _⟩
  case andNot => subst h; exact ⟨_, by simp only [binOp, Op.intBits, ne_eq, not_true_eq_false, if_false]; rfl, .int _ _⟩
  case add => subst h; exact ⟨_, by simp only [binOp, Op.intArith, ne_eq, not_true_eq_false, if_false]; rfl, .int _ _⟩
  case sub => subst h; exact ⟨_, by simp only [binOp, Op.intArith, ne_eq, not_true_eq_false, if_false]; rfl, .int _ _⟩
  case mul => subst h; exact ⟨_, by simp only [binOp, Op.intArith, ne_eq, not_true_eq_false, if_false]; rfl, .int _ _⟩
  all_goals (subst h; exact ⟨_, by simp only [binOp, Op.intCmp, ne_eq, not_true_eq_false, if_false]; rfl, .bool _⟩)

theorem toList_mk (s : List UInt8) : (⟨s.toArray⟩ : ByteArray).toList = s := by
  simp

theorem run_binOp_str (op : BinOp) (t : TypeId) (a b : List UInt8) (h : (fBinStr op a b).1) :
    ∃ v, (binOp op t (.string ⟨a.toArray⟩) (.string ⟨b.toArray⟩)).run P w = .ok v w ∧ RepA P w ok loc v (fBinStr op a b).2 := by
  have e : ∀ op, binOp op t (.string ⟨a.toArray⟩) (.string ⟨b.toArray⟩) = Op.stringOp op ⟨a.toArray⟩ ⟨b.toArray⟩ := fun op => by cases op <;> rfl
  rw [e]
  cases op <;> simp only [fBinStr] at h ⊢ <;> first | exact h.elim | skip
  case add =>
    refine ⟨_, run_string_add_sum w _ _ (by simpa [ByteArray.size] using h), ?_⟩
    rw [ByteArray.mk_append_mk]; exact .str _
  all_goals
    refine ⟨_, by simp only [Op.stringOp, toList_mk]; rfl, ?_⟩
    first
      | exact .bool _
      | (refine cast (congrArg (fun b => RepA P w ok loc (.bool b) _) ?_) (RepA.bool _); simp; done)

theorem run_equal_bool {t : TypeId} {a b : Bool} (h : P.underlying t = some .bool) : (Op.equal t (.bool a) (.bool b)).run P w = .ok (a == b) w := by
  unfold Op.equal
  rw [show Op.maxDepth = 9999 + 1 from rfl]
  unfold Op.equalIn
  simp [run_underlying' h]

theorem tInt_und {t : TypeId} {k : IntKind} (h : tInt P t = some k) : P.underlying t = some (.int k) := by
  unfold tInt at h; split at h
  · simp at h; subst h; assumption
  · cases h
theorem plain_int {t : TypeId} {k : IntKind} (h : P.underlying t = some (.int k)) : P.plainKey t = true := by simp [Program.plainKey, h]

theorem run_eqFields_int (d : Nat) (xs ys : Array Value) : ∀ (fs : List Field) (i : Nat) (ks : List IntKind) (as bs : List D), fieldKinds P i fs = some ks → aggOk ks as → aggOk ks bs →
    (∀ (j : Nat) (k : IntKind) (n : Int), as[j]? = some (.int k n) → xs[i + j]? = some (.int k n)) → (∀ (j : Nat) (k : IntKind) (n : Int), bs[j]? = some (.int k n) → ys[i + j]? = some (.int k n)) →
    (Op.eqFields (d + 1) xs ys fs).run P w = .ok (aggEq as bs) w
  | [], i, ks, as, bs, h, ha, hb, _, _ => by
    simp only [fieldKinds, Option.some.injEq] at h; subst h
    cases as with
    | cons _ _ => exact ha.elim
    | nil =>
      cases bs with
      | cons _ _ => exact hb.elim
      | nil => simp [Op.eqFields, aggEq]
  | f :: r, i, ks, as, bs, h, ha, hb, hx, hy => by
    simp only [fieldKinds] at h
    split at h
    · rename_i hf
      simp only [Bool.and_eq_true, bne_iff_ne, beq_iff_eq] at hf
      split at h
      · rename_i k ks' hk hks
        simp only [Option.some.injEq] at h; subst h
        match as, bs, ha, hb, hx, hy with
        | .int k1 n :: as, .int k2 m :: bs, ha', hb', hx, hy =>
          obtain ⟨e1, ha2⟩ := ha'
          obtain ⟨e2, hb2⟩ := hb'
          subst e1; subst e2
          have hu := tInt_und hk
          have h1 := hx 0 _ n rfl
          have h2 := hy 0 _ m rfl
          rw [Nat.add_zero] at h1 h2
          have ih := run_eqFields_int d xs ys r (i + 1) ks' as bs hks ha2 hb2 (fun j k n e => by rw [show i + 1 + j = i + (j + 1) by omega]; exact hx (j + 1) k n e) (fun j k n e => by rw [show i + 1 + j = i + (j + 1) by omega]; exact hy (j + 1) k n e)
          simp only [Op.eqFields, ne_eq, hf.1, not_false_eq_true, if_true, Sem.run_bind, hf.2, run_part_plain w (plain_int hu) h1, run_part_plain w (plain_int hu) h2, Result.andThen_ok, run_equalIn_int w d f.type _ _ n m hu, aggEq]
          cases hnm : (n == m)
          · simp
          · simp [ih]
      · cases h
    · cases h

theorem run_eqItems_int (d : Nat) {e : TypeId} {k : IntKind} (hu : P.underlying e = some (.int k)) (xs ys : Array Value) : ∀ (m i : Nat) (as bs : List D), aggOk (List.replicate m k) as → aggOk (List.replicate m k) bs →
    (∀ (j : Nat) (k : IntKind) (n : Int), as[j]? = some (.int k n) → xs[i + j]? = some (.int k n)) → (∀ (j : Nat) (k : IntKind) (n : Int), bs[j]? = some (.int k n) → ys[i + j]? = some (.int k n)) →
    (Op.eqItems (d + 1) e 1 xs ys (List.range' i m)).run P w = .ok (aggEq as bs) w
  | 0, i, as, bs, ha, hb, _, _ => by
    cases as with
    | cons _ _ => exact ha.elim
    | nil =>
      cases bs with
      | cons _ _ => exact hb.elim
      | nil => simp [Op.eqItems, aggEq]
  | m + 1, i, as, bs, ha, hb, hx, hy => by
    rw [List.replicate_succ] at ha hb
    match as, bs, ha, hb, hx, hy with
    | .int k1 n :: as, .int k2 q :: bs, ha', hb', hx, hy =>
      obtain ⟨e1, ha2⟩ := ha'
      obtain ⟨e2, hb2⟩ := hb'
      subst e1; subst e2
      have h1 := hx 0 _ n rfl
      have h2 := hy 0 _ q rfl
      rw [Nat.add_zero] at h1 h2
      have ih := run_eqItems_int d hu xs ys m (i + 1) as bs ha2 hb2 (fun j k n e => by rw [show i + 1 + j = i + (j + 1) by omega]; exact hx (j + 1) k n e) (fun j k n e => by rw [show i + 1 + j = i + (j + 1) by omega]; exact hy (j + 1) k n e)
      simp only [List.range'_succ, Op.eqItems, Sem.run_bind, Nat.mul_one, run_part_plain w (plain_int hu) h1, run_part_plain w (plain_int hu) h2, Result.andThen_ok, run_equalIn_int w d e _ _ n q hu, aggEq]
      cases hnm : (n == q)
      · simp
      · simp [ih]

/-- Two structs, or arrays, of integers are compared. -/
theorem run_equal_aggs (d : Nat) {t : TypeId} {ks : List IntKind} {xs ys : Array Value} {as bs : List D} (h : tEqS P t = some ks) (ha : aggOk ks as) (hb : aggOk ks bs)
    (hx : ∀ (j : Nat) (k : IntKind) (n : Int), as[j]? = some (.int k n) → xs[j]? = some (.int k n)) (hy : ∀ (j : Nat) (k : IntKind) (n : Int), bs[j]? = some (.int k n) → ys[j]? = some (.int k n)) :
    (Op.equalIn (d + 2) t (.agg xs) (.agg ys)).run P w = .ok (aggEq as bs) w := by
  unfold tEqS at h
  split at h
  · rename_i fs hu
    split at h
    · rename_i hs
      have hfs : P.fieldsOf t = fs := by simp [Program.fieldsOf, hu]
      rw [run_equalIn_struct w (d + 1) t xs ys (by rw [hfs]; exact hu) hs.1, hfs]
      exact run_eqFields_int d xs ys fs.toList 0 ks as bs h ha hb (fun j k n e => by rw [Nat.zero_add]; exact hx j k n e) (fun j k n e => by rw [Nat.zero_add]; exact hy j k n e)
    · cases h
  · rename_i n e hu
    split at h
    · rename_i hs
      simp only [Option.map_eq_some_iff] at h
      obtain ⟨k, hk, rfl⟩ := h
      obtain ⟨i, hi⟩ := Option.isSome_iff_exists.1 hs.2.1
      rw [run_equalIn_array w (d + 1) xs ys hu hi, hs.2.2, List.range_eq_range']
      exact run_eqItems_int d (tInt_und hk) xs ys n 0 as bs ha hb (fun j k n e => by rw [Nat.zero_add]; exact hx j k n e) (fun j k n e => by rw [Nat.zero_add]; exact hy j k n e)
    · cases h
  · cases h

theorem tEqS_guard {t : TypeId} {ks : List IntKind} (h : tEqS P t = some ks) : P.eqGuardType P.depth t = false := by
  unfold tEqS at h
  split at h
  · split at h
    · rename_i hs; exact hs.2
    · cases h
  · split at h
    · rename_i hs; exact hs.1
    · cases h
  · cases h

theorem RepV.agg_get {vs : Array Value} {cs : List D} (h : RepV w ok (.agg vs) (.agg cs)) : ∀ (j : Nat) (k : IntKind) (n : Int), cs[j]? = some (.int k n) → vs[j]? = some (.int k n) := by
  intro j k n hj
  cases h with | agg hl hc =>
  have hlt : j < vs.size := by have := (List.getElem?_eq_some_iff.1 hj).1; omega
  have := hc j vs[j] _ (Array.getElem?_eq_getElem hlt) hj
  rw [Array.getElem?_eq_getElem hlt]
  generalize vs[j] = v at this
  cases this; rfl

theorem s_bin {op : BinOp} {t : TypeId} {x y : Operand} {a b : AV} {va vb : Value} (h : (fBin P op t a b).1) (ha : RepA P w ok loc va a) (hb : RepA P w ok loc vb b) :
    ∃ v, (do eqGuard op t x y va vb; binOp op t va vb : Sem Value).run P w = .ok v w ∧ RepA P w ok loc v (fBin P op t a b).2 := by
  unfold fBin at h ⊢
  split at h
  · rename_i k n k' m
    have := ha.inv_int; subst this; have := hb.inv_int; subst this
    obtain ⟨v, hv, hr⟩ := run_binOp_int (P := P) (w := w) (ok := ok) (loc := loc) op t k k' n m h
    refine ⟨v, ?_, hr⟩
    simp only [Sem.run_bind, eqGuard]
    cases op <;> simp [hv]
  · rename_i s u
    have := ha.inv_str; subst this; have := hb.inv_str; subst this
    obtain ⟨v, hv, hr⟩ := run_binOp_str (P := P) (w := w) (ok := ok) (loc := loc) op t s u h
    refine ⟨v, ?_, hr⟩
    simp only [Sem.run_bind, eqGuard]
    cases op <;> simp [hv]
  · rename_i s u
    have := ha.inv_bool; subst this; have := hb.inv_bool; subst this
    have hu : ∀ q : Bool, tBool P t = true → P.underlying t = some .bool := fun _ hq => by
      unfold tBool at hq; split at hq
      · assumption
      · cases hq
    cases op <;> simp only at h ⊢ <;> first | exact h.elim | skip
    · exact ⟨_, by simp [eqGuard, binOp, run_equal_bool (hu true h)], .bool _⟩
    · exact ⟨_, by simp [eqGuard, binOp, run_equal_bool (hu true h)], .bool _⟩
  · rename_i as bs
    unfold fAggEq at h ⊢
    split at h
    · rename_i ks hks
      have hg := tEqS_guard hks
      cases ha with | d ha =>
      cases hb with | d hb =>
      obtain ⟨xs, rfl⟩ : ∃ xs, va = .agg xs := by cases ha; exact ⟨_, rfl⟩
      obtain ⟨ys, rfl⟩ : ∃ ys, vb = .agg ys := by cases hb; exact ⟨_, rfl⟩
      have key := fun (p : aggOk ks as) (q : aggOk ks bs) => run_equal_aggs (w := w) 9998 hks p q ha.agg_get hb.agg_get
      cases op <;> simp only at h ⊢ <;> first | exact h.elim | skip
      · exact ⟨_, by simp only [Sem.run_bind, run_eqGuard_agg w .eql t x y _ _ hg, run_eql_struct, key h.1 h.2, Result.andThen_ok], .bool _⟩
      · exact ⟨_, by simp only [Sem.run_bind, run_eqGuard_agg w .neq t x y _ _ hg, run_neq_struct, key h.1 h.2, Result.andThen_ok], .bool _⟩
    · exact h.elim
  · exact h.elim

theorem s_un {op : UnOp} {a : AV} {va : Value} (h : (fUn op a).1) (ha : RepA P w ok loc va a) :
    ∃ v, (Op.unary op va).run P w = .ok v w ∧ RepA P w ok loc v (fUn op a).2 := by
  unfold fUn at h ⊢
  split at h
  · have := ha.inv_bool; subst this
    cases op <;> simp only at h ⊢ <;> first | exact h.elim | exact ⟨_, by simp only [Op.unary]; rfl, .bool _⟩
  · have := ha.inv_int; subst this
    cases op <;> simp only at h ⊢ <;> first | exact h.elim | skip
    rename_i k n
    refine ⟨.int k (k.wrap (0 - n)), by simp [Op.unary, Op.intArith], ?_⟩
    rw [Int.zero_sub]; exact .int _ _
  · exact h.elim

theorem s_conv {s t : TypeId} {a : AV} {va : Value} (h : (fConv P s t a).1) (ha : RepA P w ok loc va a) :
    ∃ v, (convert s t va).run P w = .ok v w ∧ RepA P w ok loc v (fConv P s t a).2 := by
  unfold fConv at h ⊢
  split at h
  · have := ha.inv_int; subst this
    split at h
    · rename_i k' hk
      have hu : P.underlying t = some (.int k') := by
        unfold tInt at hk; split at hk
        · simp at hk; subst hk; assumption
        · cases hk
      obtain ⟨us, hus⟩ := Option.isSome_iff_exists.1 h
      exact ⟨.int k' (k'.wrap _), by simp [convert, run_underlying' hu, run_underlying' hus, Conv.intToInt], .int _ _⟩
    · exact h.elim
  · exact h.elim

theorem s_extract {i : Nat} {a : AV} {va : Value} (h : (fExtract i a).1) (ha : RepA P w ok loc va a) :
    ∃ v, (Instr.extract va i).run P w = .ok v w ∧ RepA P w ok loc v (fExtract i a).2 := by
  unfold fExtract at h ⊢
  split at h
  · rename_i cs
    cases ha with
    | @tp vs cs hl hc =>
      split at h
      · rename_i x hx
        have hi : i < vs.size := by
          have := (List.getElem?_eq_some_iff.1 hx).1; omega
        refine ⟨vs[i], by simp [Instr.extract, Array.getElem?_eq_getElem hi], ?_⟩
        exact hc i _ x (Array.getElem?_eq_getElem hi) hx
      · exact h.elim
  · exact h.elim

end
end Go.Fw

/- Operations that read memory or reckon addresses: they yield what is said of them. -/
namespace Go.Fw
open Go

section
variable {P : Program} {w : World} {ok : Nat → Prop} {loc : Nat → Option (Nat × Nat)}

/-- Cells that are there, read as one cell or as an aggregate. -/
theorem run_loadVar {t : TypeId} {a : Bool} {n : Nat} {z : List Value} (ht : tI P t = some (a, n, z)) {b o : Nat} {c : Array Value} {T : TypeId} {fz : Nat × Nat}
    (hb : w.heap[b]? = some (.cells c T fz)) {cs : List AV} (hc : ∀ (j : Nat) y, cs[j]? = some y → ∃ u, c[o + j]? = some u ∧ RepA P w ok loc u y)
    (h : (pickCells a n cs).1) : ∃ v, (loadVar t ⟨b, o, none⟩).run P w = .ok v w ∧ RepA P w ok loc v (pickCells a n cs).2 := by
  obtain ⟨h1, h2, _⟩ := tI_runs (w := w) ht
  unfold pickCells at h ⊢
  unfold loadVar
  cases a with
  | true =>
    simp only [if_true] at h ⊢
    have hf : ∀ j, ∃ u, j < n → c[o + j]? = some u ∧ ∀ y, cs[j]? = some y → RepA P w ok loc u y := fun j => by
      by_cases hj : j < n
      · obtain ⟨u, hu, hr⟩ := hc j cs[j] (List.getElem?_eq_getElem (by omega))
        refine ⟨u, fun _ => ⟨hu, fun y hy => ?_⟩⟩
        rw [List.getElem?_eq_getElem (by omega)] at hy
        simp only [Option.some.injEq] at hy; subst hy; exact hr
      · exact ⟨undef, fun h => absurd h hj⟩
    let f : Nat → Value := fun j => (hf j).choose
    have hfs : ∀ j, j < n → c[o + j]? = some (f j) ∧ ∀ y, cs[j]? = some y → RepA P w ok loc (f j) y := fun j => (hf j).choose_spec
    refine ⟨.agg ((List.range n).map f).toArray, ?_, .mkAg (by simp; omega) fun i v y hv hy => ?_⟩
    · simp only [Sem.run_bind, h1, Result.andThen_ok, if_true, h2, Sem.run_pure]
      rw [run_loadCells w _ n f fun j hj => by rw [Addr.add_none, cell_of_block hb]; exact (hfs j hj).1]
      rfl
    · simp only [List.getElem?_toArray, List.getElem?_map, Option.map_eq_some_iff] at hv
      obtain ⟨j, hj, rfl⟩ := hv
      rw [List.getElem?_range] at hj
      · simp only [Option.some.injEq] at hj; subst hj
        have hlt : i < n := by
          have := (List.getElem?_eq_some_iff.1 hy).1
          simp at this; omega
        rw [List.getElem?_take, if_pos hlt] at hy
        exact (hfs i hlt).2 y hy
      · have := (List.getElem?_eq_some_iff.1 hy).1
        simp at this; omega
  | false =>
    simp only [Bool.false_eq_true, if_false] at h ⊢
    split at h
    · rename_i x r
      obtain ⟨u, hu, hr⟩ := hc 0 x rfl
      refine ⟨u, ?_, hr⟩
      simp only [Sem.run_bind, h1, Result.andThen_ok, Bool.false_eq_true, if_false, run_load]
      rw [cell_of_block hb, show c[o]? = some u from hu]
    · exact h.elim

theorem s_field {t : TypeId} {f : Nat} {x : AV} {v : Value} (h : (fField P t f x).1) (hx : RepA P w ok loc v x) :
    ∃ u, (Instr.fieldAt t v f).run P w = .ok u w ∧ RepA P w ok loc u (fField P t f x).2 := by
  have key : ∀ {o : Nat} {b off : Nat}, tField P t f = some o → (Instr.fieldAt t (.pointer (some ⟨b, off, none⟩)) f).run P w = .ok (.pointer (some ⟨b, off + o, none⟩)) w := by
    intro o b off ht
    unfold tField at ht
    split at ht
    · rename_i fs hu
      split at ht
      · rename_i fl hf
        split at ht
        · rename_i i hi
          split at ht
          · cases ht
          · rename_i hz
            simp only [Option.some.injEq] at ht; subst ht
            simp [Instr.fieldAt, run_underlying' hu, hf, Instr.sureAddr, fieldPlace, run_sizeOf' hi, hz, Addr.add_none]
        · cases ht
      · cases ht
    · cases ht
  unfold fField at h ⊢
  split at h
  · rename_i id off
    split at h
    · rename_i o ho
      cases hx with | ptr hl =>
      exact ⟨_, key ho, by rw [Nat.add_assoc]; exact .ptr hl⟩
    · exact h.elim
  · rename_i sz id i off
    split at h
    · rename_i o ho
      cases hx with | ep hl =>
      exact ⟨_, key ho, by rw [Nat.add_assoc]; exact .ep hl⟩
    · exact h.elim
  · rename_i cs
    split at h
    · rename_i o ho
      cases hx with | dp u h1 h2 h3 h4 =>
      refine ⟨_, key ho, .dp (fun j => u (o + j)) h1 h2 (fun j y hy => ?_) (fun j y hy => h4 (o + j) y (by rwa [List.getElem?_drop] at hy))⟩
      rw [Nat.add_assoc]; exact h3 (o + j) y (by rwa [List.getElem?_drop] at hy)
    · exact h.elim
  · exact h.elim

theorem run_indexAt_slice {t : TypeId} {es by' : Nat} {e : TypeId} (ht : tElem P t = some (es, by', e)) {b off len cap : Nat} {k : IntKind} {n : Int} (h0 : 0 ≤ n) (h1 : n < len) :
    (Instr.indexAt t (.slice (some ⟨b, off, none⟩) len cap) (.int k n)).run P w = .ok (.pointer (some ⟨b, off + n.toNat * es, none⟩)) w := by
  obtain ⟨hu, i, hi, rfl, _⟩ := tElem_und ht
  simp [Instr.indexAt, asIntOf, run_underlying' hu, h0, h1, run_sizeOf' hi, Addr.add_none]

theorem s_idx {t : TypeId} {x i : AV} {v vi : Value} (h : (fIdx P t x i).1) (hx : RepA P w ok loc v x) (hi : RepA P w ok loc vi i) :
    ∃ u, (Instr.indexAt t v vi).run P w = .ok u w ∧ RepA P w ok loc u (fIdx P t x i).2 := by
  unfold fIdx at h ⊢
  split at h
  · rename_i xs k n
    have := hi.inv_int; subst this
    split at h
    · rename_i es by' e he
      obtain ⟨h0, h1, h2⟩ := h
      cases hx with | d hx =>
      cases hx with
      | nil base cap => simp at h1; omega
      | @list b off len cap sz c T fz _ vs hl hcap hok hh hsz hc hv =>
        subst hl
        have hn : n.toNat < xs.length := by omega
        have hget : xs[n.toNat]? = some (xs.getD n.toNat D.dflt) := by simp [List.getD, List.getElem?_eq_getElem hn]
        have hes : sz = es := by rw [← h2]; exact (hsz _ (List.mem_of_getElem? hget)).1.symm
        subst hes
        refine ⟨_, run_indexAt_slice he h0 h1, .dp (fun j => vs n.toNat j) hok hh (fun j y hy => ?_) (fun j y hy => ?_)⟩
        · simp only [List.getElem?_map, Option.map_eq_some_iff] at hy
          obtain ⟨y', hy', rfl⟩ := hy
          exact hc _ _ _ _ hget hy'
        · simp only [List.getElem?_map, Option.map_eq_some_iff] at hy
          obtain ⟨y', hy', rfl⟩ := hy
          exact .d (hv _ _ _ _ hget hy')
    · exact h.elim
  · rename_i sz id off len k n
    have := hi.inv_int; subst this
    split at h
    · rename_i es by' e he
      obtain ⟨h0, h1, rfl⟩ := h
      cases hx with
      | sl0 base => simp at h1; omega
      | @sl _ _ _ _ b δ cap c T fz hl hh hcap hlen hm =>
        refine ⟨_, run_indexAt_slice he h0 h1, ?_⟩
        have := RepA.ep (P := P) (w := w) (ok := ok) (sz := es) (i := off + n.toNat) (off := 0) hl
        rwa [Nat.add_mul, ← Nat.add_assoc] at this
    · exact h.elim
  · rename_i id off k n
    have := hi.inv_int; subst this
    split at h
    · rename_i len es ag he
      obtain ⟨h0, h1⟩ := h
      cases hx with | @ptr _ _ b δ hl =>
      have hrun : (Instr.indexAt t (.pointer (some ⟨b, δ + off, none⟩)) (.int k n)).run P w = .ok (.pointer (some ⟨b, δ + off + n.toNat * es, none⟩)) w := by
        unfold tArr at he
        split at he
        · rename_i n' e' hu
          split at he
          · rename_i i u hi' hu'
            simp only [Option.some.injEq, Prod.mk.injEq] at he
            obtain ⟨rfl, rfl, _⟩ := he
            simp [Instr.indexAt, asIntOf, run_underlying' hu, h0, h1, run_sizeOf' hi', Addr.add_none, Instr.sureAddr]
          · cases he
        · cases he
      exact ⟨_, hrun, by rw [Nat.add_assoc]; exact .ptr hl⟩
    · exact h.elim
  · rename_i cs k n
    have := hi.inv_int; subst this
    split at h
    · rename_i len es ag he
      obtain ⟨h0, h1⟩ := h
      cases hx with | @dp b o c T fz _ u h1' h2 h3 h4 =>
      have hrun : (Instr.indexAt t (.pointer (some ⟨b, o, none⟩)) (.int k n)).run P w = .ok (.pointer (some ⟨b, o + n.toNat * es, none⟩)) w := by
        unfold tArr at he
        split at he
        · rename_i n' e' hu
          split at he
          · rename_i i u hi' hu'
            simp only [Option.some.injEq, Prod.mk.injEq] at he
            obtain ⟨rfl, rfl, _⟩ := he
            simp [Instr.indexAt, asIntOf, run_underlying' hu, h0, h1, run_sizeOf' hi', Addr.add_none, Instr.sureAddr]
          · cases he
        · cases he
      refine ⟨_, hrun, .dp (fun j => u (n.toNat * es + j)) h1' h2 (fun j y hy => ?_) (fun j y hy => h4 (n.toNat * es + j) y (by rwa [List.getElem?_drop] at hy))⟩
      rw [Nat.add_assoc]; exact h3 (n.toNat * es + j) y (by rwa [List.getElem?_drop] at hy)
    · exact h.elim
  · exact h.elim

theorem tStr_und {t : TypeId} (h : tStr P t = true) : P.underlying t = some .string := by
  unfold tStr at h; split at h
  · assumption
  · cases h

theorem s_index {t : TypeId} {x i : AV} {v vi : Value} (h : (fIndex P t x i).1) (hx : RepA P w ok loc v x) (hi : RepA P w ok loc vi i) :
    ∃ u, (Instr.index t v vi).run P w = .ok u w ∧ RepA P w ok loc u (fIndex P t x i).2 := by
  unfold fIndex at h ⊢
  split at h
  · rename_i s k n
    have := hi.inv_int; subst this
    have := hx.inv_str; subst this
    obtain ⟨hs, h0, h1⟩ := h
    have hn : n.toNat < s.length := by omega
    have hb : (⟨s.toArray⟩ : ByteArray)[n.toNat]? = some (s.getD n.toNat 0) := by
      have hlt : n.toNat < (⟨s.toArray⟩ : ByteArray).size := by simpa [ByteArray.size] using hn
      rw [ByteArray.getElem?_lt' _ _ hlt]
      simp only [List.getD, List.getElem?_eq_getElem hn, Option.getD_some, Option.some.injEq]
      rfl
    exact ⟨.int .u8 ((s.getD n.toNat 0).toNat : Int), by simp only [Instr.index, asIntOf, Sem.run_bind, Sem.run_pure, Result.andThen_ok, run_underlying' (tStr_und hs), if_pos h0, hb], .int _ _⟩
  · rename_i cs k n
    have := hi.inv_int; subst this
    split at h
    · rename_i len he
      obtain ⟨h0, h1, h2⟩ := h
      cases hx with | d hx =>
      cases hx with | @agg vs _ hl hc =>
      have hn : n.toNat < vs.size := by omega
      have hn' : n.toNat < cs.length := by omega
      have hget : cs[n.toNat]? = some (cs.getD n.toNat D.dflt) := by simp [List.getD, List.getElem?_eq_getElem hn']
      refine ⟨vs[n.toNat], ?_, .d (hc _ _ _ (Array.getElem?_eq_getElem hn) hget)⟩
      unfold tArr at he
      split at he
      · rename_i n' e' hu
        split at he
        · rename_i i u hi' hu'
          simp only [Option.some.injEq, Prod.mk.injEq] at he
          obtain ⟨rfl, hsz, hag⟩ := he
          have hagg : (isAgg e').run P w = .ok false w := by
            simp only [isAgg, Sem.run_bind, run_underlying' hu', Result.andThen_ok]
            cases u <;> first | rfl | (simp at hag)
          simp [Instr.index, asIntOf, run_underlying' hu, h0, h1, run_sizeOf' hi', part, hagg, hsz, Array.getElem?_eq_getElem hn]
        · cases he
      · cases he
    · exact h.elim
  · exact h.elim

theorem s_len {t ty : TypeId} {x : AV} {v : Value} (h : (fLen P t x).1) (hx : RepA P w ok loc v x) :
    ∃ u, (Builtin.len_ #[t] ty #[v]).run P w = .ok u w ∧ RepA P w ok loc u (fLen P t x).2 := by
  unfold fLen at h ⊢
  split at h
  · have := hx.inv_str; subst this
    rename_i s; exact ⟨.int .i64 ((⟨s.toArray⟩ : ByteArray).size : Nat), by simp only [Builtin.len_, List.getElem?_toArray, List.getElem?_cons_zero, Sem.run_bind, Result.andThen_ok, run_underlying' (tStr_und h), goInt]; rfl, .int _ _⟩
  · rename_i xs
    split at h
    · rename_i p hp
      obtain ⟨es, by', e⟩ := p
      obtain ⟨hu, _⟩ := tElem_und hp
      cases hx with | d hx =>
      cases hx with
      | nil base cap => exact ⟨.int .i64 0, by simp [Builtin.len_, run_underlying' hu, goInt], .int _ _⟩
      | list vs hl hcap hok hh hsz hc hv => subst hl; exact ⟨.int .i64 xs.length, by simp [Builtin.len_, run_underlying' hu, goInt], .int _ _⟩
    · exact h.elim
  · rename_i sz id off len
    split at h
    · rename_i p hp
      obtain ⟨es, by', e⟩ := p
      obtain ⟨hu, _⟩ := tElem_und hp
      cases hx with
      | sl0 base => exact ⟨.int .i64 0, by simp [Builtin.len_, run_underlying' hu, goInt], .int _ _⟩
      | sl hl hh hcap hlen hm => exact ⟨.int .i64 len, by simp [Builtin.len_, run_underlying' hu, goInt], .int _ _⟩
    · exact h.elim
  · split at h
    · rename_i p hp
      obtain ⟨es, by', e⟩ := p
      obtain ⟨hu, _⟩ := tElem_und hp
      cases hx with | nl => exact ⟨.int .i64 0, by simp [Builtin.len_, run_underlying' hu, goInt], .int _ _⟩
    · exact h.elim
  · exact h.elim

theorem s_nil {x : AV} {v : Value} (h : (fNil x).1) (hx : RepA P w ok loc v x) :
    RepA P w ok loc v (fNil x).2 ∧ ∃ a, v = .pointer (some a) := by
  unfold fNil at h ⊢
  split at h
  · cases hx with | ptr hl => exact ⟨.ptr hl, _, rfl⟩
  · cases hx with | ep hl => exact ⟨.ep hl, _, rfl⟩
  · cases hx with | dp u h1 h2 h3 h4 => exact ⟨.dp u h1 h2 h3 h4, _, rfl⟩
  · exact h.elim

/-- Optional operands. -/
def RepO (P : Program) (w : World) (ok : Nat → Prop) (loc : Nat → Option (Nat × Nat)) : Option Value → Option AV → Prop
  | none, none => True
  | some v, some x => RepA P w ok loc v x
  | _, _ => False

theorem bnd_inv {d l : Int} {lo : Option AV} {v : Option Value} (h : bnd d lo = some l) (hr : RepO P w ok loc v lo) :
    (v = none ∧ l = d) ∨ ∃ k, v = some (.int k l) := by
  unfold bnd at h
  split at h
  · cases v with
    | none => simp at h; exact .inl ⟨rfl, h.symm⟩
    | some v => exact hr.elim
  · cases v with
    | none => exact hr.elim
    | some v => simp at h; subst h; exact .inr ⟨_, by rw [RepA.inv_int hr]⟩
  · cases h

theorem run_bounds (isS : Bool) {len cap : Nat} {l h : Int} {lo hi : Option Value} (hlo : (lo = none ∧ l = 0) ∨ ∃ k, lo = some (.int k l)) (hhi : (hi = none ∧ h = len) ∨ ∃ k, hi = some (.int k h))
    (h0 : 0 ≤ l) (h1 : l ≤ h) (h2 : h ≤ cap) : (Instr.sliceBounds isS len cap lo hi none).run P w = .ok (l.toNat, h.toNat, cap) w := by
  have hsb : ∀ (k : IntKind) (i : Int) (y : Nat) (code : BoundsCode), 0 ≤ i → i ≤ y → (Instr.sliceBound (.int k i) y code).run P w = .ok i.toNat w := by
    intro k i y code g0 g1
    simp [Instr.sliceBound, asIntOf, g0, g1]
  have ht : h ≤ (cap : Int) := h2
  have hl : l ≤ (h.toNat : Int) := by omega
  rcases hlo with ⟨rfl, rfl⟩ | ⟨kl, rfl⟩ <;> rcases hhi with ⟨rfl, rfl⟩ | ⟨kh, rfl⟩
  · simp [Instr.sliceBounds]
  · simp [Instr.sliceBounds, hsb _ _ _ _ (by omega) ht]
  · simp only [Int.toNat_natCast] at hl
    simp [Instr.sliceBounds, hsb _ _ _ _ h0 hl]
  · simp [Instr.sliceBounds, hsb _ _ _ _ (by omega) ht, hsb _ _ _ _ h0 hl]

theorem s_slice {t : TypeId} {x : AV} {lo hi : Option AV} {v : Value} {vlo vhi : Option Value} (h : (fSlice P t x lo hi).1) (hx : RepA P w ok loc v x)
    (hlo : RepO P w ok loc vlo lo) (hhi : RepO P w ok loc vhi hi) :
    ∃ u, (Instr.sliceAt t v vlo vhi none).run P w = .ok u w ∧ RepA P w ok loc u (fSlice P t x lo hi).2 := by
  unfold fSlice at h ⊢
  split at h
  · rename_i s
    split at h
    · rename_i l hh el eh
      have := hx.inv_str; subst this
      obtain ⟨hs, h0, h1, h2⟩ := h
      refine ⟨.string ((⟨s.toArray⟩ : ByteArray).extract l.toNat hh.toNat), ?_, ?_⟩
      · have hsz : ((⟨s.toArray⟩ : ByteArray).size : Int) = s.length := rfl
        have := run_bounds (P := P) (w := w) false (len := (⟨s.toArray⟩ : ByteArray).size) (cap := (⟨s.toArray⟩ : ByteArray).size) (bnd_inv el hlo) (bnd_inv eh hhi) h0 h1 (by rw [hsz]; exact h2)
        simp only [Instr.sliceAt, Instr.slice, Sem.run_bind, run_underlying' (tStr_und hs), Result.andThen_ok, Option.isSome_none, Bool.false_eq_true, if_false, this, Sem.run_pure]
      · have e : (⟨s.toArray⟩ : ByteArray).extract l.toNat hh.toNat = ⟨((s.take hh.toNat).drop l.toNat).toArray⟩ := by
          apply ByteArray.ext
          apply Array.ext'
          simp [ByteArray.data_extract, List.extract_eq_take_drop, List.drop_take]
        rw [e]; exact .str _
    · exact h.elim
  · rename_i xs
    split at h
    · rename_i l hh es by' e el eh he
      obtain ⟨hu, i, hi', hsz', _⟩ := tElem_und he
      obtain ⟨h0, h1, h2, h3⟩ := h
      cases hx with | d hx =>
      have hb : ∀ (base : Option Addr) (len cap : Nat), len = xs.length → len ≤ cap → (Instr.sliceAt t (.slice base len cap) vlo vhi none).run P w =
          .ok (.slice (if cap = l.toNat then base else base.map (·.add (l.toNat * es))) (hh.toNat - l.toNat) (cap - l.toNat)) w := by
        intro base len cap hl hcap
        have := run_bounds (P := P) (w := w) true (len := len) (cap := cap) (bnd_inv el hlo) (by rw [hl]; exact bnd_inv eh hhi) h0 h1 (by omega)
        simp only [Instr.sliceAt, Instr.slice, Sem.run_bind, run_underlying' hu, Result.andThen_ok, this, run_sizeOf' hi', hsz', Sem.run_pure]
      by_cases hlt : l < hh
      · cases hx with
        | nil base cap => simp at h2; omega
        | @list b off len cap sz c T fz _ vs hl hcap hok hh' hsz hc hv =>
          refine ⟨_, hb _ _ _ hl.symm hcap, ?_⟩
          have hn : l.toNat < xs.length := by omega
          have hget : xs[l.toNat]? = some (xs.getD l.toNat D.dflt) := by simp [List.getD, List.getElem?_eq_getElem hn]
          have hes : sz = es := by rw [← h3 hlt]; exact (hsz _ (List.mem_of_getElem? hget)).1.symm
          subst hes
          rw [if_neg (by omega), Option.map_some, Addr.add_none]
          have get : ∀ i x, ((xs.take hh.toNat).drop l.toNat)[i]? = some x → xs[l.toNat + i]? = some x := fun i x hx => by
            rw [List.getElem?_drop, List.getElem?_take] at hx
            split at hx
            · exact hx
            · cases hx
          refine .d (.list (fun i j => vs (l.toNat + i) j) (by simp; omega) (by omega) hok hh' (fun x hx => hsz x ?_) (fun i j x y hx hy => ?_) (fun i j x y hx hy => hv _ _ _ _ (get i x hx) hy))
          · exact List.mem_of_mem_take (List.mem_of_mem_drop hx)
          · have := hc _ _ _ _ (get i x hx) hy
            rw [Nat.add_mul] at this
            rw [show off + l.toNat * sz + i * sz + j = off + (l.toNat * sz + i * sz) + j by omega]; exact this
      · have heq : l = hh := by omega
        have hnil : (xs.take hh.toNat).drop l.toNat = [] := by rw [heq]; simp
        rw [hnil]
        have hz : hh.toNat - l.toNat = 0 := by omega
        cases hx with
        | nil base cap => exact ⟨_, hb _ _ _ rfl (Nat.zero_le _), by rw [hz]; exact .d (.nil _ _)⟩
        | list vs hl hcap hok hh' hsz hc hv => exact ⟨_, hb _ _ _ hl.symm hcap, by rw [hz]; exact .d (.nil _ _)⟩
    · exact h.elim
  · rename_i sz id off len
    split at h
    · rename_i l hh es by' e el eh he
      obtain ⟨hu, i, hi', hsz', _⟩ := tElem_und he
      obtain ⟨h0, h1, h2, rfl⟩ := h
      have hb : ∀ (base : Option Addr) (cap : Nat), len ≤ cap → (Instr.sliceAt t (.slice base len cap) vlo vhi none).run P w =
          .ok (.slice (if cap = l.toNat then base else base.map (·.add (l.toNat * es))) (hh.toNat - l.toNat) (cap - l.toNat)) w := by
        intro base cap hcap
        have := run_bounds (P := P) (w := w) true (len := len) (cap := cap) (bnd_inv el hlo) (bnd_inv eh hhi) h0 h1 (by omega)
        simp only [Instr.sliceAt, Instr.slice, Sem.run_bind, run_underlying' hu, Result.andThen_ok, this, run_sizeOf' hi', hsz', Sem.run_pure]
      cases hx with
      | sl0 base =>
        refine ⟨_, hb _ _ (Nat.zero_le _), ?_⟩
        have e1 : hh.toNat - l.toNat = 0 := by omega
        rw [e1, Nat.zero_sub]; exact .sl0 _ _ _ _
      | @sl _ _ _ _ b δ cap c T fz hl hh' hcap hlen hm =>
        refine ⟨_, hb _ _ hlen, ?_⟩
        by_cases hc : cap = l.toNat
        · have e1 : hh.toNat - l.toNat = 0 := by omega
          rw [e1, hc, Nat.sub_self]; exact .sl0 _ _ _ _
        · rw [if_neg hc, Option.map_some, Addr.add_none, Nat.add_assoc, ← Nat.add_mul]
          refine .sl hl hh' ?_ (by omega) (by omega)
          rw [show off + l.toNat + (cap - l.toNat) = off + cap by omega]; exact hcap
    · exact h.elim
  · exact h.elim

end
end Go.Fw

/- Operations that make or write memory: variables. -/
namespace Go.Fw
open Go

def AV.cell1 : AV → Bool
  | .d x => !x.isAgg
  | .nl | .ptr _ _ | .sl _ _ _ _ | .ep _ _ _ _ | .dp _ | .fv _ _ _ | .clo _ | .mp _ => true
  | _ => false

/-- The cells of a value. -/
def cellsA : AV → Option (List AV)
  | .unk => none
  | .tp _ => none
  | .op _ _ => none
  | .ag cs => some cs
  | .d (.agg ds) => some (ds.map .d)
  | x => some [x]

def setCells (off : Nat) : List AV → List AV → List AV
  | [], cs => cs
  | x :: r, cs => setCells (off + 1) r (cs.set off x)

def splice (c : Array Value) (o : Nat) (vs : List Value) : Array Value := (c.toList.take o ++ vs ++ c.toList.drop (o + vs.length)).toArray

theorem splice_size {c : Array Value} {o : Nat} {vs : List Value} (h : o + vs.length ≤ c.size) : (splice c o vs).size = c.size := by
  simp only [splice, List.size_toArray, List.length_append, List.length_take, List.length_drop, Array.length_toList]
  omega

theorem splice_get {c : Array Value} {o : Nat} {vs : List Value} (h : o + vs.length ≤ c.size) (i : Nat) :
    (splice c o vs)[i]? = if o ≤ i ∧ i < o + vs.length then vs[i - o]? else c[i]? := by
  simp only [splice, List.getElem?_toArray, List.append_assoc, List.getElem?_append, List.length_take, Array.length_toList, List.getElem?_take, List.getElem?_drop]
  have hm : min o c.size = o := by omega
  rw [hm]
  by_cases h1 : i < o
  · rw [if_pos h1, if_pos h1, if_neg (by omega), Array.getElem?_toList]
  · rw [if_neg h1]
    by_cases h2 : i - o < vs.length
    · rw [if_pos h2, if_pos (by omega)]
    · rw [if_neg h2, if_neg (by omega), Array.getElem?_toList]
      congr 1; omega

theorem setCells_length : ∀ (ys : List AV) (off : Nat) (cs : List AV), (setCells off ys cs).length = cs.length
  | [], _, _ => rfl
  | x :: r, off, cs => by simp [setCells, setCells_length r]

theorem setCells_get : ∀ (ys : List AV) (off : Nat) (cs : List AV), off + ys.length ≤ cs.length → ∀ i : Nat,
    (setCells off ys cs)[i]? = if off ≤ i ∧ i < off + ys.length then ys[i - off]? else cs[i]?
  | [], off, cs, _, i => by simp [setCells]; omega
  | x :: r, off, cs, h, i => by
    simp only [List.length_cons] at h
    rw [setCells, setCells_get r (off + 1) (cs.set off x) (by simp; omega) i]
    simp only [List.length_cons]
    by_cases h1 : off + 1 ≤ i ∧ i < off + 1 + r.length
    · rw [if_pos h1, if_pos (by omega), show i - off = (i - (off + 1)) + 1 by omega, List.getElem?_cons_succ]
    · rw [if_neg h1]
      by_cases h2 : i = off
      · subst h2
        rw [if_pos (by omega), Nat.sub_self, List.getElem?_cons_zero, List.getElem?_set_self (by omega)]
      · rw [if_neg (by omega), List.getElem?_set_ne (by omega)]

section
variable {P : Program} {c : Ctx} {σ : AS} {ρ : Nat → Value} {w : World} {vs : List Value} {xs : List AV} {loc : Nat → Option (Nat × Nat)} {ok : Nat → Prop}

theorem one_cells {v : Value} (h : v.oneCell' = true) : v.cells = #[v] := by cases v <;> first | rfl | (simp [Value.oneCell'] at h)

theorem RepV.one1 {v : Value} {x : D} (h : RepV w ok v x) (hx : x.isAgg = false) : v.oneCell' = true := by
  cases h <;> first | rfl | (simp [D.isAgg] at hx)

theorem RepA.one1 {v : Value} {x : AV} (h : RepA P w ok loc v x) (hx : x.cell1 = true) : v.oneCell' = true := by
  cases h with
  | d h => exact h.one1 (by simpa [AV.cell1] using hx)
  | clo h => obtain ⟨f, fst, caps, rfl, _⟩ := h; rfl
  | unk v => simp [AV.cell1] at hx
  | ag h1 h2 => simp [AV.cell1] at hx
  | tp h1 h2 => simp [AV.cell1] at hx
  | op h _ => simp [AV.cell1] at hx
  | _ => rfl

theorem cellsA_rep {v : Value} {x : AV} {ys : List AV} (h : RepA P w ok loc v x) (hx : cellsA x = some ys) :
    v.cells.size = ys.length ∧ ∀ (i : Nat) u y, v.cells[i]? = some u → ys[i]? = some y → RepA P w ok loc u y := by
  have one : v.oneCell' = true → ys = [x] → v.cells.size = ys.length ∧ ∀ (i : Nat) u y, v.cells[i]? = some u → ys[i]? = some y → RepA P w ok loc u y := by
    intro h1 h2
    rw [one_cells h1, h2]
    refine ⟨rfl, fun i u y hu hy => ?_⟩
    cases i with
    | zero => simp at hu hy; subst hu; subst hy; exact h
    | succ i => simp at hu
  cases x with
  | unk => cases hx
  | tp cs => cases hx
  | op b x => cases hx
  | ag cs =>
    simp only [cellsA, Option.some.injEq] at hx; subst hx
    cases h with | ag h1 h2 => exact ⟨h1, h2⟩
  | d x =>
    cases x with
    | agg ds =>
      simp only [cellsA, Option.some.injEq] at hx; subst hx
      cases h with | d h =>
      cases h with | agg h1 h2 =>
      refine ⟨by simpa [Value.cells] using h1, fun i u y hu hy => ?_⟩
      simp only [List.getElem?_map, Option.map_eq_some_iff] at hy
      obtain ⟨y', hy', rfl⟩ := hy
      exact .d (h2 i u y' hu hy')
    | int k n => simp only [cellsA, Option.some.injEq] at hx; exact one (h.one1 rfl) hx.symm
    | bool b => simp only [cellsA, Option.some.injEq] at hx; exact one (h.one1 rfl) hx.symm
    | str s => simp only [cellsA, Option.some.injEq] at hx; exact one (h.one1 rfl) hx.symm
    | list s => simp only [cellsA, Option.some.injEq] at hx; exact one (h.one1 rfl) hx.symm
  | nl => simp only [cellsA, Option.some.injEq] at hx; exact one (h.one1 rfl) hx.symm
  | ptr => simp only [cellsA, Option.some.injEq] at hx; exact one (h.one1 rfl) hx.symm
  | sl => simp only [cellsA, Option.some.injEq] at hx; exact one (h.one1 rfl) hx.symm
  | ep => simp only [cellsA, Option.some.injEq] at hx; exact one (h.one1 rfl) hx.symm
  | dp => simp only [cellsA, Option.some.injEq] at hx; exact one (h.one1 rfl) hx.symm
  | fv => simp only [cellsA, Option.some.injEq] at hx; exact one (h.one1 rfl) hx.symm
  | clo => simp only [cellsA, Option.some.injEq] at hx; exact one (h.one1 rfl) hx.symm
  | mp => simp only [cellsA, Option.some.injEq] at hx; exact one (h.one1 rfl) hx.symm

/-- A value written into cells that are there. -/
theorem run_storeVar {t : TypeId} {a : Bool} {n : Nat} {z : List Value} (ht : tI P t = some (a, n, z)) {b o : Nat} {cur : Array Value} {T : TypeId}
    (hb : w.heap[b]? = some (.cells cur T (0, 0))) {v : Value} {x : AV} {ys : List AV} (hx : RepA P w ok loc v x) (hc : cellsA x = some ys) (hn : ys.length = n)
    (h1 : ys.all AV.cell1 = true) (hfit : o + n ≤ cur.size) :
    (Instr.storeAt t (.pointer (some ⟨b, o, none⟩)) v).run P w = .ok () (w.setRow b (splice cur o v.cells.toList)) := by
  obtain ⟨_, hsz, _⟩ := tI_runs (w := w) ht
  obtain ⟨hl, hcells⟩ := cellsA_rep hx hc
  have hone : ∀ u ∈ v.cells.toList, u.oneCell' = true := fun u hu => by
    obtain ⟨i, hi, rfl⟩ := List.getElem_of_mem hu
    simp only [Array.length_toList] at hi
    rw [Array.getElem_toList]
    rw [List.all_eq_true] at h1
    exact (hcells i _ ys[i] (Array.getElem?_eq_getElem hi) (List.getElem?_eq_getElem (by omega))).one1 (h1 _ (List.getElem_mem _))
  have hst := run_storeCells_at P b o T v.cells.toList 0 cur w hb (by simp; omega) hone
  simp only [Nat.add_zero] at hst
  simp only [Instr.storeAt, Instr.sureAddr, Sem.run_bind, Sem.run_pure, Result.andThen_ok, storeVar, hsz]
  rw [if_neg (by simp; omega)]
  simp only [Sem.run_bind, Sem.run_pure, Result.andThen_ok, hst, splice]

theorem setRow_same {b : Nat} {cur cur' : Array Value} {T : TypeId} (hb : w.heap[b]? = some (.cells cur T (0, 0))) : (w.setRow b cur').heap[b]? = some (.cells cur' T (0, 0)) := by
  simp [World.setRow, Array.getElem?_modify, hb]

theorem setRow_other {b n : Nat} {cur' : Array Value} (h : n ≠ b) : (w.setRow b cur').heap[n]? = w.heap[n]? := by
  simp [World.setRow, Array.getElem?_modify, Ne.symm h]

theorem setRow_shapes {b : Nat} {cur cur' : Array Value} {T : TypeId} (hb : w.heap[b]? = some (.cells cur T (0, 0))) (hs : cur'.size = cur.size) : Shapes w (w.setRow b cur') := fun n c T' fz h => by
  by_cases hn : n = b
  · subst hn
    rw [hb] at h
    simp only [Option.some.injEq, Obj.cells.injEq] at h
    obtain ⟨rfl, rfl, rfl⟩ := h
    exact ⟨cur', T, (0, 0), setRow_same hb, hs⟩
  · exact ⟨c, T', fz, by rw [setRow_other hn, h], rfl⟩

theorem setRow_size (b : Nat) (cur' : Array Value) : (w.setRow b cur').heap.size = w.heap.size := by simp [World.setRow]

/-- A store into a variable of the frame's own. -/
theorem RepL.store (h : RepL P c σ ρ w vs xs loc) {id off : Nat} {cs : List AV} (hid : σ.hp.heap id = some (.bx cs)) {va v : Value} (ha : RepA P w (okOf c w σ.hp loc) loc va (.ptr id off))
    {t : TypeId} {ag : Bool} {n : Nat} {z : List Value} (ht : tI P t = some (ag, n, z)) {x : AV} {ys : List AV} (hx : RepA P w (okOf c w σ.hp loc) loc v x) (hc : cellsA x = some ys) (hn : ys.length = n)
    (h1 : ys.all AV.cell1 = true) (hfit : off + n ≤ cs.length) :
    ∃ w', (Instr.storeAt t va v).run P w = .ok () w' ∧ RepL P c { σ with hp := σ.hp.set id (.bx (setCells off ys cs)) } ρ w' vs xs loc := by
  cases ha with | @ptr _ _ b δ hl =>
  have hlive : Live σ.hp id := by simp [Live, hid]
  cases h.heap id _ hid with | @bx b' cur T _ hl' hh hz hcs =>
  rw [hl] at hl'; simp only [Option.some.injEq, Prod.mk.injEq] at hl'; obtain ⟨rfl, rfl⟩ := hl'
  simp only [Nat.zero_add]
  obtain ⟨e1, e2⟩ := cellsA_rep hx hc
  have hsp : off + v.cells.toList.length ≤ cur.size := by simp; omega
  refine ⟨_, run_storeVar ht hh hx hc hn h1 (by omega), ?_⟩
  refine h.write id b 0 (.bx (setCells off ys cs)) hlive hl (setRow_shapes hh (splice_size hsp)) ⟨rfl, rfl, rfl⟩ (setRow_size b _) (fun n hn => setRow_other hn) fun hk => ?_
  refine .bx hl (setRow_same hh) (by rw [splice_size hsp, setCells_length, hz]) fun i u y hu hy => ?_
  rw [splice_get hsp] at hu
  rw [setCells_get ys off cs (by omega)] at hy
  have hsh := setRow_shapes (cur' := splice cur off v.cells.toList) hh (splice_size hsp)
  by_cases hi : off ≤ i ∧ i < off + ys.length
  · rw [if_pos hi] at hy
    rw [if_pos (by simp; omega)] at hu
    rw [Array.getElem?_toList] at hu
    exact (e2 _ _ _ hu hy).mono hk hsh
  · rw [if_neg hi] at hy
    rw [if_neg (by simp; omega)] at hu
    exact (hcs i u y hu hy).mono hk hsh

/-- The cells of a new variable. -/
theorem RepL.newBox (h : RepL P c σ ρ w vs xs loc) (k : Nat) (hf : σ.free k) (T : TypeId) {cv : Array Value} {ys : List AV} (hl : cv.size = ys.length)
    (hc : ∀ (i : Nat) u y, cv[i]? = some u → ys[i]? = some y → RepA P w (okOf c w σ.hp loc) loc u y) :
    RepL P c (σ.new k (.bx ys)) ρ (w.alloc (.cells cv T)) vs xs (upd loc k (some (w.heap.size, 0))) := by
  refine h.new k hf _ _ 0 (.bx (by simp [upd]) (heap_alloc_new w _) hl fun i u y hu hy => ?_)
  refine (hc i u y hu hy).mono_ext (ok_new h hf _ 0) (Shapes.of_ext (ExtW.alloc w _)) fun id q hq => ?_
  have : id ≠ k := fun he => by rw [he, (h.free_heap hf).2] at hq; cases hq
  simp [upd, this, hq]

theorem run_box {t : TypeId} {v : Value} : (Instr.box t v).run P w = .ok (.pointer (some ⟨w.heap.size, 0, none⟩)) (w.alloc (.cells v.cells t)) := by
  simp [Instr.box, newVar, newRow]

theorem run_alloc {t : TypeId} {a : Bool} {n : Nat} {z : List Value} (ht : tI P t = some (a, n, z)) :
    (Instr.alloc t true (.tuple #[])).run P w = .ok (.pointer (some ⟨w.heap.size, 0, none⟩)) (w.alloc (.cells z.toArray t)) := by
  obtain ⟨_, _, v, hv, rfl⟩ := tI_runs (w := w) ht
  simp [Instr.alloc, hv, newVar, newRow]

theorem RepL.alloc (h : RepL P c σ ρ w vs xs loc) (k : Nat) (hf : σ.free k) {t : TypeId} {a : Bool} {n : Nat} {z : List Value} (ht : tI P t = some (a, n, z)) :
    ∃ v w' loc', (Instr.alloc t true (.tuple #[])).run P w = .ok v w' ∧ RepL P c (σ.new k (.bx (z.map ofVal))) ρ w' vs xs loc' ∧
      RepA P w' (okOf c w' (σ.new k (.bx (z.map ofVal))).hp loc') loc' v (.ptr k 0) := by
  refine ⟨.pointer (some ⟨w.heap.size, 0 + 0, none⟩), _, upd loc k (some (w.heap.size, 0)), run_alloc ht, h.newBox k hf t (by simp) fun i u y hu hy => ?_, .ptr (by simp [upd])⟩
  simp only [List.getElem?_toArray, List.getElem?_map] at hu hy
  rw [hu] at hy; simp only [Option.map_some, Option.some.injEq] at hy; subst hy
  exact .ofVal u

theorem RepL.box (h : RepL P c σ ρ w vs xs loc) (k : Nat) (hf : σ.free k) (t : TypeId) {v : Value} {x : AV} {ys : List AV} (hx : RepA P w (okOf c w σ.hp loc) loc v x) (hc : cellsA x = some ys) :
    ∃ u w' loc', (Instr.box t v).run P w = .ok u w' ∧ RepL P c (σ.new k (.bx ys)) ρ w' vs xs loc' ∧
      RepA P w' (okOf c w' (σ.new k (.bx ys)).hp loc') loc' u (.ptr k 0) := by
  obtain ⟨e1, e2⟩ := cellsA_rep hx hc
  exact ⟨.pointer (some ⟨w.heap.size, 0 + 0, none⟩), _, upd loc k (some (w.heap.size, 0)), run_box, h.newBox k hf t e1 e2, .ptr (by simp [upd])⟩

/-- A new variable that is never written: its cells are data from the first. -/
theorem RepL.boxDp (h : RepL P c σ ρ w vs xs loc) (t : TypeId) {v : Value} {x : AV} {ys : List AV} (hx : RepA P w (okOf c w σ.hp loc) loc v x) (hc : cellsA x = some ys) :
    ∃ u w', (Instr.box t v).run P w = .ok u w' ∧ RepL P c σ ρ w' vs xs loc ∧ RepA P w' (okOf c w' σ.hp loc) loc u (.dp ys) := by
  obtain ⟨e1, e2⟩ := cellsA_rep hx hc
  have hE := ExtW.alloc w (.cells v.cells t)
  refine ⟨_, _, run_box, h.ext' hE, ?_⟩
  have hlt : ∀ j, ∃ u, ∀ y, ys[j]? = some y → v.cells[j]? = some u := fun j => by
    by_cases hj : j < ys.length
    · exact ⟨v.cells[j]'(by omega), fun y _ => Array.getElem?_eq_getElem _⟩
    · exact ⟨undef, fun y hy => by rw [List.getElem?_eq_none (by omega)] at hy; cases hy⟩
  refine .dp (fun j => (hlt j).choose) ⟨by simp, .inr (.inl h.ext.size), fun id δ hl he => ?_⟩ (heap_alloc_new w _) (fun j y hy => by rw [Nat.zero_add]; exact (hlt j).choose_spec y hy) fun j y hy => ?_
  · have := (h.own id _ δ hl he).1; omega
  · exact (e2 j _ y ((hlt j).choose_spec y hy) hy).mono (okOf.step hE) (Shapes.of_ext hE)

end
end Go.Fw

/- Operations that make or write memory: slices of the frame's own. -/
namespace Go.Fw
open Go

/-- A value as a datum: what must hold, the datum, and the blocks that must be given up for it. -/
def toD0 (hp : HP) : AV → Option (Prop × D × List Nat)
  | .d x => some (True, x, [])
  | .nl => some (True, .list [], [])
  | .sl sz id off len => match hp.heap id with
    | some (.ar sz' xs) => some (sz = sz' ∧ off + len ≤ xs.length, .list ((xs.drop off).take len), [id])
    | _ => none
  | _ => none
def toD0s (hp : HP) : List AV → Option (Prop × List D × List Nat)
  | [] => some (True, [], [])
  | x :: r => match toD0 hp x, toD0s hp r with
    | some (p, y, l), some (q, ys, l') => some (p ∧ q, y :: ys, l ++ l')
    | _, _ => none
/-- A row of rows of the frame's own. -/
def toDx (sz id off len : Nat) (cs : List AV) (q : Option (Prop × List D × List Nat)) : Option (Prop × D × List Nat) :=
  match q with
  | some (p, ys, l) => some (p ∧ sz = 1 ∧ off + len ≤ cs.length ∧ ∀ y ∈ ys, y.isAgg = false, .list ys, id :: l)
  | none => none
def toD1 (hp : HP) : AV → Option (Prop × D × List Nat)
  | .d x => some (True, x, [])
  | .nl => some (True, .list [], [])
  | .sl sz id off len => match hp.heap id with
    | some (.ar sz' xs) => some (sz = sz' ∧ off + len ≤ xs.length, .list ((xs.drop off).take len), [id])
    | some (.bx cs) => toDx sz id off len cs (toD0s hp ((cs.drop off).take len))
    | _ => none
  | _ => none
def toDs (hp : HP) : List AV → Option (Prop × List D × List Nat)
  | [] => some (True, [], [])
  | x :: r => match toD1 hp x, toDs hp r with
    | some (p, y, l), some (q, ys, l') => some (p ∧ q, y :: ys, l ++ l')
    | _, _ => none
def toD (hp : HP) : AV → Option (Prop × D × List Nat)
  | .ag cs => (toDs hp cs).map fun p => (p.1, .agg p.2.1, p.2.2)
  | x => toD1 hp x

def HP.dropL (hp : HP) : List Nat → HP
  | [] => hp
  | id :: r => (hp.drop id).dropL r

section
variable {P : Program} {c : Ctx} {σ : AS} {ρ : Nat → Value} {w : World} {vs : List Value} {xs : List AV} {loc : Nat → Option (Nat × Nat)} {ok : Nat → Prop}

theorem Live.of_drop {hp : HP} {k id : Nat} (h : Live (hp.drop k) id) : id ≠ k ∧ Live hp id := by
  by_cases hid : id = k
  · subst hid; simp [Live, HP.drop, upd] at h
  · exact ⟨hid, by simpa [Live, HP.drop, upd, hid] using h⟩

theorem okOf.drop {hp : HP} (k : Nat) (b : Nat) (h : okOf c w hp loc b) : okOf c w (hp.drop k) loc b :=
  ⟨h.1, h.2.1, fun id δ hl => h.2.2 id δ hl.of_drop.2⟩

theorem RepL.drop (h : RepL P c σ ρ w vs xs loc) (k : Nat) : RepL P c { σ with hp := σ.hp.drop k } ρ w vs xs loc where
  slots s := (h.slots s).mono (fun b hb => ⟨hb.drop k, rfl⟩) (Shapes.refl w)
  len := h.len
  vals i v x hv hx := (h.vals i v x hv hx).mono (fun b hb => ⟨hb.drop k, rfl⟩) (Shapes.refl w)
  heap id blk hb := by
    have hne : id ≠ k := fun he => by subst he; simp [HP.drop, upd] at hb
    have hb' : σ.hp.heap id = some blk := by simpa [HP.drop, upd, hne] using hb
    exact (h.heap id blk hb').mono (fun b hb => ⟨hb.drop k, rfl⟩) (Shapes.refl w) fun _ _ _ => rfl
  inj id id' b δ δ' h1 h2 := h.inj id id' b δ δ' h1.of_drop.2 h2.of_drop.2
  own id b δ h1 := h.own id b δ h1.of_drop.2
  ext := h.ext
  fix := h.fix
  dom := h.dom
  liveU id hl := h.liveU id hl.of_drop.2

theorem RepL.dropL : ∀ (l : List Nat) {σ : AS}, RepL P c σ ρ w vs xs loc → RepL P c { σ with hp := σ.hp.dropL l } ρ w vs xs loc
  | [], _, h => h
  | k :: r, _, h => RepL.dropL r (h.drop k)

theorem okOf.dropL : ∀ (l : List Nat) {hp : HP} (b : Nat), okOf c w hp loc b → okOf c w (hp.dropL l) loc b
  | [], _, _, h => h
  | k :: r, hp, b, h => okOf.dropL r b (h.drop k)

theorem dropL_heap : ∀ (l : List Nat) (hp : HP) (id : Nat), (hp.dropL l).heap id = if id ∈ l then none else hp.heap id
  | [], hp, id => by simp [HP.dropL]
  | k :: r, hp, id => by
    rw [HP.dropL, dropL_heap r]
    by_cases h1 : id ∈ r
    · simp [h1]
    · by_cases h2 : id = k
      · subst h2; simp [HP.drop, upd]
      · simp [h1, h2, HP.drop, upd]

theorem okOf.own {h : RepL P c σ ρ w vs xs loc} {id b δ : Nat} (hl : Live σ.hp id) (he : loc id = some (b, δ)) {l : List Nat} (hm : id ∈ l) : okOf c w (σ.hp.dropL l) loc b := by
  obtain ⟨h1, h2, h3⟩ := h.own id b δ hl he
  refine ⟨h1, .inr h3, fun id' δ' hl' he' => ?_⟩
  have hl2 : Live σ.hp id' := by
    simp only [Live, dropL_heap] at hl' ⊢
    split at hl'
    · simp at hl'
    · exact hl'
  have := h.inj id' id b δ' δ hl2 hl he' he
  subst this
  simp [Live, dropL_heap, hm] at hl'

/-- The elements of a slice of the frame's own, as data. -/
theorem ar_list {sz id off len : Nat} {v : Value} {ys : List D} (hv : RepA P w ok loc v (.sl sz id off len)) (hb : RepB P w ok loc id (.ar sz ys)) (hle : off + len ≤ ys.length)
    {ok' : Nat → Prop} (hok : ∀ b, ok b → ok' b) (hown : ∀ b δ, loc id = some (b, δ) → ok' b) : RepV w ok' v (.list ((ys.drop off).take len)) := by
  cases hv with
  | sl0 base =>
    rw [List.take_zero]; exact .nil _ _
  | @sl _ _ _ _ b δ cap c T fz hl hh hcap hlen hm =>
    cases hb with
    | ar0 sz hl' => rw [hl] at hl'; cases hl'
    | @ar b' δ' c' T' _ _ us hl' hh' hz hsz hc hu =>
      rw [hl] at hl'; simp only [Option.some.injEq, Prod.mk.injEq] at hl'; obtain ⟨rfl, rfl⟩ := hl'
      have get : ∀ i x, ((ys.drop off).take len)[i]? = some x → ys[off + i]? = some x := fun i x hx => by
        rw [List.getElem?_take] at hx
        split at hx
        · rwa [List.getElem?_drop] at hx
        · cases hx
      refine .list (fun i j => us (off + i) j) (by simp; omega) hlen (hown b δ hl) hh' (fun x hx => hsz x (List.mem_of_mem_drop (List.mem_of_mem_take hx))) (fun i j x y hx hy => ?_)
        (fun i j x y hx hy => (hu _ _ _ _ (get i x hx) hy).mono fun b hb => ⟨hok b hb, rfl⟩)
      have := hc _ _ _ _ (get i x hx) hy
      rw [Nat.add_mul] at this
      rw [show δ + off * sz + i * sz + j = δ + (off * sz + i * sz) + j by omega]; exact this

theorem toD0_rep (h : RepL P c σ ρ w vs xs loc) {v : Value} {x : AV} {p : Prop} {y : D} {l l' : List Nat} (hx : toD0 σ.hp x = some (p, y, l)) (hp : p)
    (hv : RepA P w (okOf c w σ.hp loc) loc v x) (hsub : ∀ i ∈ l, i ∈ l') : RepV w (okOf c w (σ.hp.dropL l') loc) v y := by
  cases x <;> simp only [toD0] at hx <;> first | (cases hx; done) | skip
  case d x =>
    simp only [Option.some.injEq, Prod.mk.injEq] at hx; obtain ⟨rfl, rfl, rfl⟩ := hx
    cases hv with | d hv => exact hv.mono fun b hb => ⟨hb.dropL _ _, rfl⟩
  case nl =>
    simp only [Option.some.injEq, Prod.mk.injEq] at hx; obtain ⟨rfl, rfl, rfl⟩ := hx
    cases hv; exact .nil _ _
  case sl sz id off len =>
    split at hx
    · rename_i sz' ys hh
      simp only [Option.some.injEq, Prod.mk.injEq] at hx; obtain ⟨rfl, rfl, rfl⟩ := hx
      obtain ⟨rfl, hle⟩ := hp
      have hlive : Live σ.hp id := by simp [Live, hh]
      exact ar_list hv (h.heap id _ hh) hle (fun b hb => hb.dropL _ _) fun b δ hl => okOf.own (h := h) hlive hl (hsub id (by simp))
    · cases hx

theorem toD0s_rep (h : RepL P c σ ρ w vs xs loc) : ∀ {cs : List AV} {p : Prop} {ys : List D} {l l' : List Nat}, toD0s σ.hp cs = some (p, ys, l) → p → (∀ i ∈ l, i ∈ l') →
    ys.length = cs.length ∧ ∀ (i : Nat) v x y, cs[i]? = some x → ys[i]? = some y → RepA P w (okOf c w σ.hp loc) loc v x → RepV w (okOf c w (σ.hp.dropL l') loc) v y
  | [], p, ys, l, l', hx, hp, hs => by
    simp only [toD0s, Option.some.injEq, Prod.mk.injEq] at hx; obtain ⟨_, rfl, _⟩ := hx
    exact ⟨rfl, fun i v x y h1 => by simp at h1⟩
  | x :: r, p, ys, l, l', hx, hp, hs => by
    simp only [toD0s] at hx
    split at hx
    · rename_i p1 y l1 q ys' l2 e1 e2
      simp only [Option.some.injEq, Prod.mk.injEq] at hx; obtain ⟨rfl, rfl, rfl⟩ := hx
      obtain ⟨i1, i2⟩ := toD0s_rep h e2 hp.2 fun i hi => hs i (by simp [hi])
      refine ⟨by simp [i1], fun i v x' y' h1 h2 h3 => ?_⟩
      cases i with
      | zero => simp at h1 h2; subst h1; subst h2; exact toD0_rep h e1 hp.1 h3 fun i hi => hs i (by simp [hi])
      | succ i => simp at h1 h2; exact i2 i v x' y' h1 h2 h3
    · cases hx

/-- The elements of a slice over cells of the frame's own, as data. -/
theorem bx_list {id off len : Nat} {v : Value} {cs : List AV} {ys : List D} (hv : RepA P w ok loc v (.sl 1 id off len)) (hb : RepB P w ok loc id (.bx cs)) (hle : off + len ≤ cs.length) (hna : ∀ y ∈ ys, y.isAgg = false) (hyl : ys.length = len)
    {ok' : Nat → Prop} (hown : ∀ b δ, loc id = some (b, δ) → ok' b) (hrep : ∀ (i : Nat) u x y, ((cs.drop off).take len)[i]? = some x → ys[i]? = some y → RepA P w ok loc u x → RepV w ok' u y) : RepV w ok' v (.list ys) := by
  cases hv with
  | sl0 base =>
    have : ys = [] := List.eq_nil_of_length_eq_zero hyl
    subst this; exact .nil _ _
  | @sl _ _ _ _ b δ cap c T fz hl hh hcap hlen hm =>
    cases hb with
    | @bx b' c' T' _ hl' hh' hz hcs =>
      rw [hl] at hl'; simp only [Option.some.injEq, Prod.mk.injEq] at hl'; obtain ⟨rfl, rfl⟩ := hl'
      have key : ∀ i y, ys[i]? = some y → ∃ u, c'[off + i]? = some u ∧ RepV w ok' u y := fun i y hy => by
        have hi : i < len := by have := (List.getElem?_eq_some_iff.1 hy).1; omega
        have hg : ((cs.drop off).take len)[i]? = some (cs[off + i]'(by omega)) := by
          rw [List.getElem?_take, if_pos hi, List.getElem?_drop, List.getElem?_eq_getElem (by omega)]
        exact ⟨c'[off + i]'(by omega), Array.getElem?_eq_getElem _, hrep i _ _ y hg hy (hcs (off + i) _ _ (Array.getElem?_eq_getElem _) (List.getElem?_eq_getElem (by omega)))⟩
      have one : ∀ (i j : Nat) x y, ys[i]? = some x → x.cells[j]? = some y → j = 0 ∧ y = x := fun i j x y hx hy => by
        have := hna x (List.mem_of_getElem? hx)
        cases x <;> simp [D.isAgg] at this <;> cases j <;> simp [D.cells] at hy <;> exact ⟨rfl, hy.symm⟩
      refine .list (fun i _ => (c'[off + i]?).getD undef) hyl hlen (hown b _ hl) hh' (sz := 1) (fun x hx => ?_) (fun i j x y hx hy => ?_) fun i j x y hx hy => ?_
      · have := hna x hx
        cases x <;> simp [D.isAgg] at this <;> simp [D.fits, D.cells, D.isAgg]
      · obtain ⟨rfl, rfl⟩ := one i j x y hx hy
        obtain ⟨u, hu, _⟩ := key i y hx
        rw [show 0 + off * 1 + i * 1 + 0 = off + i by omega, hu]; rfl
      · obtain ⟨rfl, rfl⟩ := one i j x y hx hy
        obtain ⟨u, hu, hr⟩ := key i y hx
        rw [hu]; exact hr

theorem toD1_rep (h : RepL P c σ ρ w vs xs loc) {v : Value} {x : AV} {p : Prop} {y : D} {l l' : List Nat} (hx : toD1 σ.hp x = some (p, y, l)) (hp : p)
    (hv : RepA P w (okOf c w σ.hp loc) loc v x) (hsub : ∀ i ∈ l, i ∈ l') : RepV w (okOf c w (σ.hp.dropL l') loc) v y := by
  cases x <;> simp only [toD1] at hx <;> first | (cases hx; done) | skip
  case d x =>
    simp only [Option.some.injEq, Prod.mk.injEq] at hx; obtain ⟨rfl, rfl, rfl⟩ := hx
    cases hv with | d hv => exact hv.mono fun b hb => ⟨hb.dropL _ _, rfl⟩
  case nl =>
    simp only [Option.some.injEq, Prod.mk.injEq] at hx; obtain ⟨rfl, rfl, rfl⟩ := hx
    cases hv; exact .nil _ _
  case sl sz id off len =>
    split at hx
    · rename_i sz' ys hh
      simp only [Option.some.injEq, Prod.mk.injEq] at hx; obtain ⟨rfl, rfl, rfl⟩ := hx
      obtain ⟨rfl, hle⟩ := hp
      have hlive : Live σ.hp id := by simp [Live, hh]
      exact ar_list hv (h.heap id _ hh) hle (fun b hb => hb.dropL _ _) fun b δ hl => okOf.own (h := h) hlive hl (hsub id (by simp))
    · rename_i cs hh
      unfold toDx at hx
      split at hx
      · rename_i q ys l1 e
        simp only [Option.some.injEq, Prod.mk.injEq] at hx; obtain ⟨rfl, rfl, rfl⟩ := hx
        obtain ⟨hq, rfl, hle, hna⟩ := hp
        have hlive : Live σ.hp id := by simp [Live, hh]
        obtain ⟨i1, i2⟩ := toD0s_rep h e hq fun i hi => hsub i (by simp [hi])
        exact bx_list hv (h.heap id _ hh) hle hna (by rw [i1]; simp; omega) (fun b δ hl => okOf.own (h := h) hlive hl (hsub id (by simp))) i2
      · cases hx
    · cases hx

theorem toDs_rep (h : RepL P c σ ρ w vs xs loc) : ∀ {cs : List AV} {p : Prop} {ys : List D} {l l' : List Nat}, toDs σ.hp cs = some (p, ys, l) → p → (∀ i ∈ l, i ∈ l') →
    ys.length = cs.length ∧ ∀ (i : Nat) v x y, cs[i]? = some x → ys[i]? = some y → RepA P w (okOf c w σ.hp loc) loc v x → RepV w (okOf c w (σ.hp.dropL l') loc) v y
  | [], p, ys, l, l', hx, hp, hs => by
    simp only [toDs, Option.some.injEq, Prod.mk.injEq] at hx; obtain ⟨_, rfl, _⟩ := hx
    exact ⟨rfl, fun i v x y h1 => by simp at h1⟩
  | x :: r, p, ys, l, l', hx, hp, hs => by
    simp only [toDs] at hx
    split at hx
    · rename_i p1 y l1 q ys' l2 e1 e2
      simp only [Option.some.injEq, Prod.mk.injEq] at hx; obtain ⟨rfl, rfl, rfl⟩ := hx
      obtain ⟨i1, i2⟩ := toDs_rep h e2 hp.2 fun i hi => hs i (by simp [hi])
      refine ⟨by simp [i1], fun i v x' y' h1 h2 h3 => ?_⟩
      cases i with
      | zero => simp at h1 h2; subst h1; subst h2; exact toD1_rep h e1 hp.1 h3 fun i hi => hs i (by simp [hi])
      | succ i => simp at h1 h2; exact i2 i v x' y' h1 h2 h3
    · cases hx

theorem toD_rep (h : RepL P c σ ρ w vs xs loc) {v : Value} {x : AV} {p : Prop} {y : D} {l l' : List Nat} (hx : toD σ.hp x = some (p, y, l)) (hp : p)
    (hv : RepA P w (okOf c w σ.hp loc) loc v x) (hsub : ∀ i ∈ l, i ∈ l') : RepV w (okOf c w (σ.hp.dropL l') loc) v y := by
  cases x with
  | ag cs =>
    simp only [toD, Option.map_eq_some_iff] at hx
    obtain ⟨⟨p', ys, l1⟩, hx, he⟩ := hx
    simp only [Prod.mk.injEq] at he; obtain ⟨rfl, rfl, rfl⟩ := he
    obtain ⟨i1, i2⟩ := toDs_rep h hx hp hsub
    cases hv with | ag h1 h2 =>
    refine .agg (by omega) fun i u z hu hz => ?_
    have hlt : i < cs.length := by have := (List.getElem?_eq_some_iff.1 hz).1; omega
    exact i2 i u cs[i] z (List.getElem?_eq_getElem hlt) hz (h2 i u cs[i] hu (List.getElem?_eq_getElem hlt))
  | _ => unfold toD at hx; exact toD1_rep h hx hp hv hsub
end
end Go.Fw

/- Slices that the frame makes: literals, make, append. -/
namespace Go.Fw
open Go

def toDA (hp : HP) : List AV → Option (Prop × List D × List Nat)
  | [] => some (True, [], [])
  | x :: r => match toD hp x, toDA hp r with
    | some (p, y, l), some (q, ys, l') => some (p ∧ q, y :: ys, l ++ l')
    | _, _ => none

def ofValD : Value → Option D
  | .int k n => some (.int k n)
  | .bool b => some (.bool b)
  | .string s => some (.str s.data.toList)
  | .slice a n c => if a = none ∧ n = 0 ∧ c = 0 then some (.list []) else none
  | _ => none
def ofValDs : List Value → Option (List D)
  | [] => some []
  | v :: r => match ofValD v, ofValDs r with
    | some x, some xs => some (x :: xs)
    | _, _ => none
/-- A type's zero value as a datum. -/
def zeroD (ag : Bool) (z : List Value) : Option D :=
  if ag then (ofValDs z).map .agg else match z with | [v] => ofValD v | _ => none

section
variable {P : Program} {c : Ctx} {σ : AS} {ρ : Nat → Value} {w : World} {vs : List Value} {xs : List AV} {loc : Nat → Option (Nat × Nat)} {ok : Nat → Prop}

theorem toDA_rep (h : RepL P c σ ρ w vs xs loc) : ∀ {cs : List AV} {p : Prop} {ys : List D} {l l' : List Nat}, toDA σ.hp cs = some (p, ys, l) → p → (∀ i ∈ l, i ∈ l') →
    ys.length = cs.length ∧ ∀ (i : Nat) v x y, cs[i]? = some x → ys[i]? = some y → RepA P w (okOf c w σ.hp loc) loc v x → RepV w (okOf c w (σ.hp.dropL l') loc) v y
  | [], p, ys, l, l', hx, hp, hs => by
    simp only [toDA, Option.some.injEq, Prod.mk.injEq] at hx; obtain ⟨_, rfl, _⟩ := hx
    exact ⟨rfl, fun i v x y h1 => by simp at h1⟩
  | x :: r, p, ys, l, l', hx, hp, hs => by
    simp only [toDA] at hx
    split at hx
    · rename_i p1 y l1 q ys' l2 e1 e2
      simp only [Option.some.injEq, Prod.mk.injEq] at hx; obtain ⟨rfl, rfl, rfl⟩ := hx
      obtain ⟨i1, i2⟩ := toDA_rep h e2 hp.2 fun i hi => hs i (by simp [hi])
      refine ⟨by simp [i1], fun i v x' y' h1 h2 h3 => ?_⟩
      cases i with
      | zero => simp at h1 h2; subst h1; subst h2; exact toD_rep h e1 hp.1 h3 fun i hi => hs i (by simp [hi])
      | succ i => simp at h1 h2; exact i2 i v x' y' h1 h2 h3
    · cases hx

theorem RepV.cells {v : Value} {y : D} (h : RepV w ok v y) : v.cells.size = y.cells.length ∧ ∀ (j : Nat) u z, v.cells[j]? = some u → y.cells[j]? = some z → RepV w ok u z := by
  cases h with
  | agg h1 h2 => exact ⟨h1, h2⟩
  | int k n => refine ⟨rfl, fun j u z h1 h2 => ?_⟩; cases j <;> simp [Value.cells, D.cells] at h1 h2; subst h1; subst h2; exact .int _ _
  | bool b => refine ⟨rfl, fun j u z h1 h2 => ?_⟩; cases j <;> simp [Value.cells, D.cells] at h1 h2; subst h1; subst h2; exact .bool _
  | str s => refine ⟨rfl, fun j u z h1 h2 => ?_⟩; cases j <;> simp [Value.cells, D.cells] at h1 h2; subst h1; subst h2; exact .str _
  | nil b cp => refine ⟨rfl, fun j u z h1 h2 => ?_⟩; cases j <;> simp [Value.cells, D.cells] at h1 h2; subst h1; subst h2; exact .nil _ _
  | list us e1 e2 e3 e4 e5 e6 e7 =>
    refine ⟨rfl, fun j u z h1 h2 => ?_⟩
    cases j <;> simp [Value.cells, D.cells] at h1 h2
    subst h1; subst h2; exact .list us e1 e2 e3 e4 e5 e6 e7

theorem RepV.ofValD {v : Value} {y : D} (h : ofValD v = some y) : RepV w ok v y := by
  unfold Fw.ofValD at h
  split at h <;> first | (cases h; done) | skip
  · cases h; exact .int _ _
  · cases h; exact .bool _
  · rename_i s; cases h; exact RepV.str s.data.toList
  · split at h
    · rename_i e; obtain ⟨rfl, rfl, rfl⟩ := e; cases h; exact .nil _ _
    · cases h

theorem ofValDs_get : ∀ {l : List Value} {ys : List D}, ofValDs l = some ys → ys.length = l.length ∧ ∀ (i : Nat) v y, l[i]? = some v → ys[i]? = some y → ofValD v = some y
  | [], ys, h => by simp only [ofValDs, Option.some.injEq] at h; subst h; exact ⟨rfl, fun i v y h1 => by simp at h1⟩
  | v :: r, ys, h => by
    simp only [ofValDs] at h
    split at h
    · rename_i x xs e1 e2
      simp only [Option.some.injEq] at h; subst h
      obtain ⟨i1, i2⟩ := ofValDs_get e2
      refine ⟨by simp [i1], fun i v' y h1 h2 => ?_⟩
      cases i with
      | zero => simp at h1 h2; subst h1; subst h2; exact e1
      | succ i => simp at h1 h2; exact i2 i v' y h1 h2
    · cases h

theorem fill_run (es : Nat) : ∀ (ps : List (Nat × Value)) (k : Nat) (cells : Array Value), ps.map Prod.fst = List.range' k ps.length → (∀ p ∈ ps, p.2.cells.size = es) → (k + ps.length) * es ≤ cells.size →
    ∃ cells', Instr.fill (fun i => some (i * es, es)) cells ps = some cells' ∧ cells'.size = cells.size ∧ (∀ q, q < k * es → cells'[q]? = cells[q]?) ∧
      ∀ i p, ps[i]? = some p → ∀ j, j < es → cells'[(k + i) * es + j]? = p.2.cells[j]?
  | [], k, cells, _, _, _ => ⟨cells, rfl, rfl, fun _ _ => rfl, fun i p h => by simp at h⟩
  | (i0, v) :: r, k, cells, hk, hv, hs => by
    simp only [List.map_cons, List.length_cons, List.range'_succ, List.cons.injEq] at hk
    obtain ⟨rfl, hk⟩ := hk
    have hve : v.cells.size = es := hv (i0, v) (by simp)
    have hle : i0 * es + es ≤ cells.size := by
      have : (i0 + (r.length + 1)) * es = i0 * es + es + r.length * es := by rw [Nat.add_mul, Nat.add_mul]; omega
      simp only [List.length_cons] at hs; omega
    have hfold : ∀ (l : List Value) (s : Nat) (cs : Array Value), i0 * es + s + l.length ≤ cs.size →
        (l.zipIdx s).foldl (fun cs (p : Value × Nat) => cs.setIfInBounds (i0 * es + p.2) p.1) cs = splice cs (i0 * es + s) l := by
      intro l
      induction l with
      | nil => intro s cs _; simp [splice]
      | cons x l ih =>
        intro s cs hcs
        simp only [List.length_cons] at hcs
        rw [List.zipIdx_cons, List.foldl_cons, ih (s + 1) _ (by simp; omega)]
        apply Array.ext_getElem?
        intro q
        rw [splice_get (by simp; omega), splice_get (by simp; omega)]
        simp only [List.length_cons]
        by_cases h1 : i0 * es + (s + 1) ≤ q ∧ q < i0 * es + (s + 1) + l.length
        · rw [if_pos h1, if_pos (by omega), show q - (i0 * es + s) = (q - (i0 * es + (s + 1))) + 1 by omega, List.getElem?_cons_succ]
        · rw [if_neg h1]
          by_cases h2 : q = i0 * es + s
          · subst h2
            rw [if_pos (by omega), Nat.sub_self, List.getElem?_cons_zero, Array.getElem?_setIfInBounds_self_of_lt (by omega)]
          · rw [if_neg (by omega), Array.getElem?_setIfInBounds_ne (Ne.symm h2)]
    have hf := hfold v.cells.toList 0 cells (by simp; omega)
    simp only [Nat.add_zero] at hf
    have hzip : v.cells.zipIdx.foldl (fun cs (p : Value × Nat) => cs.setIfInBounds (i0 * es + p.2) p.1) cells = splice cells (i0 * es) v.cells.toList := by
      rw [← hf, ← Array.foldl_toList, Array.toList_zipIdx]
    have hsp : i0 * es + v.cells.toList.length ≤ cells.size := by simp; omega
    obtain ⟨cells', e1, e2, e3, e4⟩ := fill_run es r (i0 + 1) (splice cells (i0 * es) v.cells.toList) hk (fun p hp => hv p (by simp [hp]))
      (by rw [splice_size hsp]; simp only [List.length_cons] at hs; rw [show i0 + 1 + r.length = i0 + (r.length + 1) by omega]; exact hs)
    refine ⟨cells', ?_, by rw [e2, splice_size hsp], fun q hq => ?_, fun i p hp j hj => ?_⟩
    · simp only [Instr.fill]
      rw [if_neg (by simp; omega)]
      rw [← e1]; congr 1
    · rw [e3 q (by rw [Nat.add_mul]; omega), splice_get hsp, if_neg (by omega)]
    · cases i with
      | zero =>
        simp only [List.getElem?_cons_zero, Option.some.injEq] at hp; subst hp
        simp only [Nat.add_zero]
        rw [e3 _ (by rw [Nat.add_mul]; omega), splice_get hsp, if_pos (by simp; omega)]
        simp
      | succ i =>
        simp only [List.getElem?_cons_succ] at hp
        rw [show i0 + (i + 1) = i0 + 1 + i by omega]
        exact e4 i p hp j hj

theorem tI_zero {t : TypeId} {a : Bool} {n : Nat} {z : List Value} (h : tI P t = some (a, n, z)) : ∃ i zv, P.info? t = some i ∧ i.zero = some zv ∧ i.size = n ∧ zv.cells.toList = z := by
  unfold tI at h
  split at h
  · rename_i u i hu hi
    split at h
    · rename_i zv hz
      simp only [Option.some.injEq, Prod.mk.injEq] at h
      exact ⟨i, zv, hi, hz, h.2.1, h.2.2⟩
    · cases h
  · cases h

/-- A slice literal, every place of it written. -/
theorem RepL.buildSlice (h : RepL P c σ ρ w vs xs loc) (k : Nat) (hf : σ.free k) {t : TypeId} {es by' : Nat} {e : TypeId} {ag : Bool} {n : Nat} {z : List Value} (ht : tElem P t = some (es, by', e)) (hz : tI P e = some (ag, n, z))
    {ps : List (Nat × Value)} {avs : List AV} (hk : ps.map Prod.fst = List.range ps.length) (hl : ps.length = avs.length)
    (hv : ∀ (i : Nat) p x, ps[i]? = some p → avs[i]? = some x → RepA P w (okOf c w σ.hp loc) loc p.2 x)
    {p : Prop} {ys : List D} {l : List Nat} (hd : toDA σ.hp avs = some (p, ys, l)) (hp : p) (hfit : ∀ y ∈ ys, y.fits es) (hpos : 0 < es) (hsm : ps.length * es ≤ 16777216) :
    ∃ v w' loc', (Instr.buildSlice t ps.length ps.toArray).run P w = .ok v w' ∧ RepL P c (AS.new { σ with hp := σ.hp.dropL l } k (.ar es ys)) ρ w' vs xs loc' ∧
      RepA P w' (okOf c w' (AS.new { σ with hp := σ.hp.dropL l } k (.ar es ys)).hp loc') loc' v (.sl es k 0 ps.length) := by
  obtain ⟨hu, i, hi, rfl, _⟩ := tElem_und ht
  obtain ⟨i', zv, hi', hzv, hsz, _⟩ := tI_zero hz
  rw [hi] at hi'; simp only [Option.some.injEq] at hi'; subst hi'
  obtain ⟨d1, d2⟩ := toDA_rep h hd hp (l' := l) fun i hi => hi
  have hcl : ∀ (j : Nat) p, ps[j]? = some p → ∃ y, ys[j]? = some y ∧ RepV w (okOf c w (σ.hp.dropL l) loc) p.2 y := fun j p hj => by
    have hjl : j < ps.length := (List.getElem?_eq_some_iff.1 hj).1
    refine ⟨ys[j]'(by omega), List.getElem?_eq_getElem (by omega), ?_⟩
    exact d2 j p.2 (avs[j]'(by omega)) _ (List.getElem?_eq_getElem (by omega)) (List.getElem?_eq_getElem (by omega)) (hv j p _ hj (List.getElem?_eq_getElem (by omega)))
  have hps : ∀ p ∈ ps, p.2.cells.size = i.size := fun p hp => by
    obtain ⟨j, hj⟩ := List.mem_iff_getElem?.1 hp
    obtain ⟨y, hy, hr⟩ := hcl j p hj
    rw [hr.cells.1]; exact (hfit y (List.mem_of_getElem? hy)).1
  let zero0 : Array Value := if ps.length * i.size = 0 then #[] else zv.cells
  obtain ⟨cells, f1, f2, f3, f4⟩ := fill_run i.size ps 0 ((Array.range (ps.length * i.size)).map (zero0[· % zero0.size]!)) (by rw [hk, List.range_eq_range']) hps (by simp)
  have hsize : cells.size = ps.length * i.size := by rw [f2]; simp
  have hrun : (Instr.buildSlice t ps.length ps.toArray).run P w = .ok (.slice (some ⟨w.heap.size, 0, none⟩) ps.length ps.length) (w.alloc (.cells cells e)) := by
    have hns : ¬ ps.length * i.size > 2 ^ 24 := by omega
    by_cases h0 : ps.length * i.size = 0
    · have : zero0 = #[] := by simp only [zero0, if_pos h0]
      rw [this] at f1
      simp only [Instr.buildSlice, Sem.run_bind, run_underlying' hu, Result.andThen_ok, run_sizeOf' hi, if_neg hns, if_pos h0, Sem.run_pure, f1, newRow, run_newObj, World.alloc_eq]
    · have : zero0 = zv.cells := by simp only [zero0, if_neg h0]
      rw [this] at f1
      simp only [Instr.buildSlice, Sem.run_bind, run_underlying' hu, Result.andThen_ok, run_sizeOf' hi, if_neg hns, if_neg h0, zeroValue, typeInfo, run_program, hi, hzv, Sem.run_pure, f1, newRow, run_newObj, World.alloc_eq]
  have hnew : RepL P c (AS.new { σ with hp := σ.hp.dropL l } k (.ar i.size ys)) ρ (w.alloc (.cells cells e)) vs xs (upd loc k (some (w.heap.size, 0))) := by
    refine (RepL.dropL l h).new k hf _ _ 0 ?_
    refine .ar (b := w.heap.size) (δ := 0) (fun i' j => cells[i' * i.size + j]?.getD undef) (by simp [upd]) (heap_alloc_new w _) (by rw [hsize, Nat.zero_add, d1, ← hl]; exact Nat.le_refl _) hfit (fun i' j x y hx hy => ?_) fun i' j x y hx hy => ?_
    all_goals
      have hil : i' < ps.length := by have := (List.getElem?_eq_some_iff.1 hx).1; omega
      obtain ⟨y', hy', hr⟩ := hcl i' ps[i'] (List.getElem?_eq_getElem hil)
      rw [hx] at hy'; simp only [Option.some.injEq] at hy'; subst hy'
      have hjl : j < i.size := by have := (List.getElem?_eq_some_iff.1 hy).1; rw [(hfit x (List.mem_of_getElem? hx)).1] at this; exact this
      have hcj := f4 i' ps[i'] (List.getElem?_eq_getElem hil) j hjl
      rw [Nat.zero_add] at hcj
      have hjs : j < ps[i'].2.cells.size := by rw [hps _ (List.getElem_mem _)]; exact hjl
      rw [Array.getElem?_eq_getElem hjs] at hcj
    · rw [Nat.zero_add, hcj]; rfl
    · rw [hcj]
      exact (hr.cells.2 j _ y (Array.getElem?_eq_getElem hjs) hy).mono fun b hb => ok_new (RepL.dropL l h) hf _ 0 b hb
  refine ⟨_, _, upd loc k (some (w.heap.size, 0)), hrun, hnew, ?_⟩
  by_cases h0 : ps.length = 0
  · rw [h0]; exact .sl0 _ _ _ _
  · have := RepA.sl (P := P) (w := w.alloc (.cells cells e)) (ok := okOf c (w.alloc (.cells cells e)) (AS.new { σ with hp := σ.hp.dropL l } k (.ar i.size ys)).hp (upd loc k (some (w.heap.size, 0))))
      (loc := upd loc k (some (w.heap.size, 0))) (sz := i.size) (id := k) (off := 0) (len := ps.length) (b := w.heap.size) (δ := 0) (cap := ps.length) (by simp [upd]) (heap_alloc_new w _) (by rw [hsize]; simp) (Nat.le_refl _)
      (by have : ps.length ≤ ps.length * i.size := Nat.le_mul_of_pos_right _ hpos
          unfold maxLen; omega)
    simpa using this

/-- A slice literal of cells that stay as they are (rows of the frame's own among them). -/
theorem RepL.buildSliceL (h : RepL P c σ ρ w vs xs loc) (k : Nat) (hf : σ.free k) {t : TypeId} {by' : Nat} {e : TypeId} {ag : Bool} {n : Nat} {z : List Value} (ht : tElem P t = some (1, by', e)) (hz : tI P e = some (ag, n, z))
    {ps : List (Nat × Value)} {avs : List AV} (hk : ps.map Prod.fst = List.range ps.length) (hl : ps.length = avs.length)
    (hv : ∀ (i : Nat) p x, ps[i]? = some p → avs[i]? = some x → RepA P w (okOf c w σ.hp loc) loc p.2 x)
    (h1 : avs.all AV.cell1 = true) (hsm : ps.length ≤ 16777216) :
    ∃ v w' loc', (Instr.buildSlice t ps.length ps.toArray).run P w = .ok v w' ∧ RepL P c (σ.new k (.bx avs)) ρ w' vs xs loc' ∧
      RepA P w' (okOf c w' (σ.new k (.bx avs)).hp loc') loc' v (.sl 1 k 0 ps.length) := by
  obtain ⟨hu, i, hi, hes, _⟩ := tElem_und ht
  obtain ⟨i', zv, hi', hzv, hsz, _⟩ := tI_zero hz
  rw [hi] at hi'; simp only [Option.some.injEq] at hi'; subst hi'
  have hps0 : ∀ (j : Nat) p x, ps[j]? = some p → avs[j]? = some x → p.2.cells = #[p.2] := fun j p x hp hx =>
    one_cells ((hv j p x hp hx).one1 (by rw [List.all_eq_true] at h1; exact h1 x (List.mem_of_getElem? hx)))
  have hps : ∀ p ∈ ps, p.2.cells.size = i.size := fun p hp => by
    obtain ⟨j, hj⟩ := List.mem_iff_getElem?.1 hp
    have hjl : j < ps.length := (List.getElem?_eq_some_iff.1 hj).1
    rw [hps0 j p _ hj (List.getElem?_eq_getElem (by omega)), hes]; rfl
  let zero0 : Array Value := if ps.length * i.size = 0 then #[] else zv.cells
  obtain ⟨cells, f1, f2, f3, f4⟩ := fill_run i.size ps 0 ((Array.range (ps.length * i.size)).map (zero0[· % zero0.size]!)) (by rw [hk, List.range_eq_range']) hps (by simp)
  have hsize : cells.size = ps.length := by rw [f2]; simp [hes]
  have hrun : (Instr.buildSlice t ps.length ps.toArray).run P w = .ok (.slice (some ⟨w.heap.size, 0, none⟩) ps.length ps.length) (w.alloc (.cells cells e)) := by
    have hns : ¬ ps.length * i.size > 2 ^ 24 := by rw [hes]; omega
    by_cases h0 : ps.length * i.size = 0
    · have : zero0 = #[] := by simp only [zero0, if_pos h0]
      rw [this] at f1
      simp only [Instr.buildSlice, Sem.run_bind, run_underlying' hu, Result.andThen_ok, run_sizeOf' hi, if_neg hns, if_pos h0, Sem.run_pure, f1, newRow, run_newObj, World.alloc_eq]
    · have : zero0 = zv.cells := by simp only [zero0, if_neg h0]
      rw [this] at f1
      simp only [Instr.buildSlice, Sem.run_bind, run_underlying' hu, Result.andThen_ok, run_sizeOf' hi, if_neg hns, if_neg h0, zeroValue, typeInfo, run_program, hi, hzv, Sem.run_pure, f1, newRow, run_newObj, World.alloc_eq]
  refine ⟨_, _, upd loc k (some (w.heap.size, 0)), hrun, h.newBox k hf e (by rw [hsize, hl]) fun j u y hu' hy => ?_, ?_⟩
  · have hjl : j < ps.length := by have := (List.getElem?_eq_some_iff.1 hy).1; omega
    have hcj := f4 j ps[j] (List.getElem?_eq_getElem hjl) 0 (by rw [hes]; omega)
    rw [Nat.zero_add, hes, Nat.mul_one, Nat.add_zero, hu', hps0 j _ y (List.getElem?_eq_getElem hjl) hy] at hcj
    simp at hcj
    rw [hcj]
    exact hv j _ y (List.getElem?_eq_getElem hjl) hy
  · by_cases h0 : ps.length = 0
    · rw [h0]; exact .sl0 _ _ _ _
    · have := RepA.sl (P := P) (w := w.alloc (.cells cells e)) (ok := okOf c (w.alloc (.cells cells e)) (σ.new k (.bx avs)).hp (upd loc k (some (w.heap.size, 0))))
        (loc := upd loc k (some (w.heap.size, 0))) (sz := 1) (id := k) (off := 0) (len := ps.length) (b := w.heap.size) (δ := 0) (cap := ps.length) (by simp [upd]) (heap_alloc_new w _) (by rw [hsize]; simp) (Nat.le_refl _)
        (by unfold maxLen; omega)
      simpa using this

/-- 'make([]T, n)', the capacity at least the length. -/
theorem RepL.makeSlice (h : RepL P c σ ρ w vs xs loc) (k : Nat) (hf : σ.free k) {t : TypeId} {es by' : Nat} {e : TypeId} {ag : Bool} {n : Nat} {z : List Value} (ht : tElem P t = some (es, by', e)) (hz : tI P e = some (ag, n, z))
    {zd : D} (hzd : zeroD ag z = some zd) (hfz : zd.fits es) (hpos : 0 < es) (kl kc : IntKind) {m q : Int} (h0 : 0 ≤ m) (hmq : m ≤ q) (hby : (by' : Int) * q ≤ 281474976710656) (hm : q ≤ 9223372036854775807) :
    ∃ v w' loc', (Instr.makeSlice t (.int kl m) (.int kc q)).run P w = .ok v w' ∧ RepL P c (σ.new k (.ar es (List.replicate m.toNat zd))) ρ w' vs xs loc' ∧
      RepA P w' (okOf c w' (σ.new k (.ar es (List.replicate m.toNat zd))).hp loc') loc' v (.sl es k 0 m.toNat) := by
  obtain ⟨hu, i, hi, rfl, rfl⟩ := tElem_und ht
  obtain ⟨i', zv, hi', hzv, hsz, rfl⟩ := tI_zero hz
  rw [hi] at hi'; simp only [Option.some.injEq] at hi'; subst hi'
  have hzr : ∀ (w' : World) (ok' : Nat → Prop), ∀ (j : Nat) u y, zv.cells[j]? = some u → zd.cells[j]? = some y → RepV w' ok' u y := by
    intro w' ok' j u y hu' hy
    unfold zeroD at hzd
    cases ag with
    | true =>
      simp only [if_true, Option.map_eq_some_iff] at hzd
      obtain ⟨ds, hds, rfl⟩ := hzd
      obtain ⟨_, g2⟩ := ofValDs_get hds
      exact .ofValD (g2 j u y (by rw [Array.getElem?_toList]; exact hu') hy)
    | false =>
      simp only [Bool.false_eq_true, if_false] at hzd
      split at hzd
      · rename_i v hv
        have hu2 : zv.cells.toList[j]? = some u := by rw [Array.getElem?_toList]; exact hu'
        rw [hv] at hu2
        have hna : zd.isAgg = false := by
          unfold ofValD at hzd
          split at hzd <;> first | (cases hzd; done) | (cases hzd; rfl) | (split at hzd <;> first | (cases hzd; done) | (cases hzd; rfl))
        have hc : zd.cells = [zd] := by cases zd <;> first | rfl | (simp [D.isAgg] at hna)
        rw [hc] at hy
        cases j with
        | zero => simp at hu2 hy; subst hu2; subst hy; exact .ofValD hzd
        | succ j => simp at hy
      · cases hzd
  have hzl : zv.cells.size = i.size := by
    have h1 : zv.cells.size = zd.cells.length := by
      unfold zeroD at hzd
      cases ag with
      | true =>
        simp only [if_true, Option.map_eq_some_iff] at hzd
        obtain ⟨ds, hds, rfl⟩ := hzd
        have := (ofValDs_get hds).1
        simpa [D.cells] using this.symm
      | false =>
        simp only [Bool.false_eq_true, if_false] at hzd
        split at hzd
        · rename_i v hv
          have hna : zd.isAgg = false := by
            unfold ofValD at hzd
            split at hzd <;> first | (cases hzd; done) | (cases hzd; rfl) | (split at hzd <;> first | (cases hzd; done) | (cases hzd; rfl))
          have hc : zd.cells = [zd] := by cases zd <;> first | rfl | (simp [D.isAgg] at hna)
          rw [hc, ← Array.length_toList, hv]; rfl
        · cases hzd
    rw [h1, hfz.1]
  have hrun := run_make (P := P) w t e i zv hu hi hzv kl kc m q h0 hmq hby hm
  refine ⟨_, _, upd loc k (some (w.heap.size, 0)), hrun, ?_, ?_⟩
  · refine h.new k hf _ _ 0 (.ar (b := w.heap.size) (δ := 0) (fun i' j => zv.cells[j]?.getD undef) (by simp [upd]) (heap_alloc_new w _) ?_ (fun x hx => ?_) (fun i' j x y hx hy => ?_) fun i' j x y hx hy => ?_)
    · rw [size_madeCells, List.length_replicate, Nat.zero_add]; exact Nat.mul_le_mul_right _ (by omega)
    · rw [List.mem_replicate] at hx; rw [hx.2]; exact hfz
    · have hil : i' < m.toNat := by have := (List.getElem?_eq_some_iff.1 hx).1; simpa using this
      rw [List.getElem?_replicate, if_pos hil] at hx; simp only [Option.some.injEq] at hx; subst hx
      have hjl : j < i.size := by have := (List.getElem?_eq_some_iff.1 hy).1; rw [hfz.1] at this; exact this
      have hq : i' * i.size + j < q.toNat * i.size := by
        have h1 : (i' + 1) * i.size ≤ q.toNat * i.size := Nat.mul_le_mul_right _ (by omega)
        rw [Nat.add_mul] at h1; omega
      have hmod : (i' * i.size + j) % i.size = j := by rw [Nat.add_comm, Nat.add_mul_mod_self_right, Nat.mod_eq_of_lt hjl]
      simp only [Nat.zero_add, madeCells, Array.getElem?_map, Array.getElem?_range, hq, if_true, Option.map_some, hzl, hmod]
      rw [getElem!_pos zv.cells j (by omega), Array.getElem?_eq_getElem (by omega)]; rfl
    · have hil : i' < m.toNat := by have := (List.getElem?_eq_some_iff.1 hx).1; simpa using this
      rw [List.getElem?_replicate, if_pos hil] at hx; simp only [Option.some.injEq] at hx; subst hx
      have hjl : j < zv.cells.size := by have := (List.getElem?_eq_some_iff.1 hy).1; rw [hfz.1] at this; omega
      rw [Array.getElem?_eq_getElem hjl]
      exact hzr _ _ j _ y (Array.getElem?_eq_getElem hjl) hy
  · have := RepA.sl (P := P) (w := w.alloc (.cells (madeCells zv.cells (q.toNat * i.size)) e)) (ok := okOf c (w.alloc (.cells (madeCells zv.cells (q.toNat * i.size)) e)) (σ.new k (.ar i.size (List.replicate m.toNat zd))).hp (upd loc k (some (w.heap.size, 0))))
      (loc := upd loc k (some (w.heap.size, 0))) (sz := i.size) (id := k) (off := 0) (len := m.toNat) (b := w.heap.size) (δ := 0) (cap := q.toNat) (by simp [upd]) (heap_alloc_new w _) (by rw [size_madeCells]; simp) (by omega) (by unfold maxLen; omega)
    simpa using this

/-- A row of nil rows that stays cell by cell. -/
theorem RepL.makeSliceL (h : RepL P c σ ρ w vs xs loc) (k : Nat) (hf : σ.free k) {t : TypeId} {es by' : Nat} {e : TypeId} {ag : Bool} {n : Nat} {z : List Value} (ht : tElem P t = some (es, by', e)) (hz : tI P e = some (ag, n, z))
    (hzz : z = [.slice none 0 0]) (hes : es = 1) (kl kc : IntKind) {m : Int} (h0 : 0 ≤ m) (hby : (by' : Int) * m ≤ 281474976710656) (hm : m ≤ 9223372036854775807) :
    ∃ v w' loc', (Instr.makeSlice t (.int kl m) (.int kc m)).run P w = .ok v w' ∧ RepL P c (σ.new k (.bx (List.replicate m.toNat .nl))) ρ w' vs xs loc' ∧
      RepA P w' (okOf c w' (σ.new k (.bx (List.replicate m.toNat .nl))).hp loc') loc' v (.sl 1 k 0 m.toNat) := by
  obtain ⟨hu, i, hi, hes', rfl⟩ := tElem_und ht
  obtain ⟨i', zv, hi', hzv, hsz, rfl⟩ := tI_zero hz
  rw [hi] at hi'; simp only [Option.some.injEq] at hi'; subst hi'
  have hi1 : i.size = 1 := by omega
  have hc : zv.cells = #[.slice none 0 0] := by
    apply Array.ext'; exact hzz
  have hrun := run_make (P := P) w t e i zv hu hi hzv kl kc m m h0 (Int.le_refl _) hby hm
  refine ⟨_, _, upd loc k (some (w.heap.size, 0)), hrun, ?_, ?_⟩
  · refine h.new k hf _ _ 0 (.bx (b := w.heap.size) (by simp [upd]) (heap_alloc_new w _) ?_ fun j v y hv hy => ?_)
    · rw [size_madeCells, List.length_replicate, hi1, Nat.mul_one]
    · have hj : j < m.toNat := by have := (List.getElem?_eq_some_iff.1 hy).1; simpa using this
      rw [List.getElem?_replicate, if_pos hj] at hy
      simp only [Option.some.injEq] at hy; subst hy
      simp only [madeCells, hc, hi1, Nat.mul_one, Array.getElem?_map, Array.getElem?_range, hj, if_true, Option.map_some, Option.some.injEq] at hv
      subst hv
      have : j % (#[Value.slice none 0 0] : Array Value).size = 0 := by simp [Nat.mod_one]
      rw [this]
      exact .nl
  · have := RepA.sl (P := P) (w := w.alloc (.cells (madeCells zv.cells (m.toNat * i.size)) e)) (ok := okOf c (w.alloc (.cells (madeCells zv.cells (m.toNat * i.size)) e)) (σ.new k (.bx (List.replicate m.toNat .nl))).hp (upd loc k (some (w.heap.size, 0))))
      (loc := upd loc k (some (w.heap.size, 0))) (sz := 1) (id := k) (off := 0) (len := m.toNat) (b := w.heap.size) (δ := 0) (cap := m.toNat) (by simp [upd]) (heap_alloc_new w _) (by rw [size_madeCells, hi1]; simp) (by omega) (by unfold maxLen; omega)
    simpa using this

end
end Go.Fw

/- Slices that the frame owns: stores into elements, append. -/
namespace Go.Fw
open Go

/-- What is appended: the elements of a slice, looked at. -/
def srcOf (hp : HP) : AV → Option (Prop × List D)
  | .d (.list ys) => some (True, ys)
  | .nl => some (True, [])
  | .sl sz id off len => match hp.heap id with
    | some (.ar sz' xs) => some (sz = sz' ∧ off + len ≤ xs.length, (xs.drop off).take len)
    | _ => none
  | _ => none

/-- An element with some cells written. -/
def D.setCell (x : D) (o : Nat) (ys : List D) : D :=
  match x, o, ys with
  | .agg cs, o, ys => .agg (cs.take o ++ ys ++ cs.drop (o + ys.length))
  | _, _, [y] => y
  | x, _, _ => x

section
variable {P : Program} {c : Ctx} {σ : AS} {ρ : Nat → Value} {w : World} {vs : List Value} {xs : List AV} {loc : Nat → Option (Nat × Nat)} {ok : Nat → Prop}

/-- The cells of what is appended. -/
theorem src_cells (h : RepL P c σ ρ w vs xs loc) {x : AV} {p : Prop} {ys : List D} (hx : srcOf σ.hp x = some (p, ys)) (hp : p) {v : Value} (hv : RepA P w (okOf c w σ.hp loc) loc v x) (es : Nat) (hfit : ∀ y ∈ ys, y.fits es) :
    (Builtin.lenOf v).run P w = .ok ys.length w ∧ ∃ g : Nat → Value, (∀ n, n ≤ ys.length → (Builtin.firstCells es n v).run P w = .ok ((List.range (n * es)).map g).toArray w) ∧
      ∀ (i j : Nat) y z, ys[i]? = some y → y.cells[j]? = some z → RepV w (okOf c w σ.hp loc) (g (i * es + j)) z := by
  -- cells that lie in a row
  have row : ∀ (b o cap : Nat) (cur : Array Value) (T : TypeId) (fz : Nat × Nat) (us : Nat → Nat → Value), w.heap[b]? = some (.cells cur T fz) →
      (∀ (i j : Nat) y z, ys[i]? = some y → y.cells[j]? = some z → cur[o + i * es + j]? = some (us i j) ∧ RepV w (okOf c w σ.hp loc) (us i j) z) →
      ∃ g : Nat → Value, (∀ n, n ≤ ys.length → (Builtin.firstCells es n (.slice (some ⟨b, o, none⟩) ys.length cap)).run P w = .ok ((List.range (n * es)).map g).toArray w) ∧
        ∀ (i j : Nat) y z, ys[i]? = some y → y.cells[j]? = some z → RepV w (okOf c w σ.hp loc) (g (i * es + j)) z := by
    intro b o cap cur T fz us hh hc
    have key : ∀ (i j : Nat) y z, ys[i]? = some y → y.cells[j]? = some z → (i * es + j) / es = i ∧ (i * es + j) % es = j := by
      intro i j y z hy hz
      have hj : j < es := by have := (List.getElem?_eq_some_iff.1 hz).1; rw [(hfit y (List.mem_of_getElem? hy)).1] at this; exact this
      exact ⟨by rw [Nat.add_comm, Nat.add_mul_div_right _ _ (by omega), Nat.div_eq_of_lt hj, Nat.zero_add], by rw [Nat.add_comm, Nat.add_mul_mod_self_right, Nat.mod_eq_of_lt hj]⟩
    refine ⟨fun q => us (q / es) (q % es), fun n hn => ?_, fun i j y z hy hz => ?_⟩
    · simp only [Builtin.firstCells]
      refine run_loadCells w _ _ _ fun q hq => ?_
      have hes : 0 < es := by
        rcases Nat.eq_zero_or_pos es with he | he
        · rw [he] at hq; omega
        · exact he
      have hi : q / es < ys.length := Nat.lt_of_lt_of_le ((Nat.div_lt_iff_lt_mul hes).2 hq) hn
      have hy := List.getElem?_eq_getElem hi
      have hjl : q % es < (ys[q / es]).cells.length := by rw [(hfit _ (List.getElem_mem _)).1]; exact Nat.mod_lt _ hes
      have := (hc _ _ _ _ hy (List.getElem?_eq_getElem hjl)).1
      rw [Addr.add_none, cell_of_block hh, ← this]
      congr 1
      have := Nat.div_add_mod q es
      rw [Nat.mul_comm] at this; omega
    · obtain ⟨k1, k2⟩ := key i j y z hy hz
      simp only [k1, k2]
      exact (hc i j y z hy hz).2
  have empty : ∀ (base : Option Addr) (cap : Nat), ys = [] → ∃ g : Nat → Value, (∀ n, n ≤ ys.length → (Builtin.firstCells es n (.slice base 0 cap)).run P w = .ok ((List.range (n * es)).map g).toArray w) ∧
        ∀ (i j : Nat) y z, ys[i]? = some y → y.cells[j]? = some z → RepV w (okOf c w σ.hp loc) (g (i * es + j)) z := by
    intro base cap he
    subst he
    refine ⟨fun _ => undef, fun n hn => ?_, fun i j y z hy => by simp at hy⟩
    have hn0 : n = 0 := Nat.le_zero.1 hn
    subst hn0
    cases base <;> simp [Builtin.firstCells, loadCells, loadCellsFrom]
  unfold srcOf at hx
  split at hx
  · simp only [Option.some.injEq, Prod.mk.injEq] at hx; obtain ⟨rfl, rfl⟩ := hx
    cases hv with | d hv =>
    cases hv with
    | nil base cap => exact ⟨by simp [Builtin.lenOf], empty base cap rfl⟩
    | list us e1 e2 e3 e4 e5 e6 e7 =>
      subst e1
      refine ⟨by simp [Builtin.lenOf], ?_⟩
      rename_i b off cap sz cur T fz
      refine row b off cap cur T fz us e4 fun i j y z hy hz => ⟨?_, e7 i j y z hy hz⟩
      have : sz = es := by rw [← (e5 y (List.mem_of_getElem? hy)).1, (hfit y (List.mem_of_getElem? hy)).1]
      subst this; exact e6 i j y z hy hz
  · simp only [Option.some.injEq, Prod.mk.injEq] at hx; obtain ⟨rfl, rfl⟩ := hx
    cases hv
    exact ⟨by simp [Builtin.lenOf], empty none 0 rfl⟩
  · rename_i sz id off len
    split at hx
    · rename_i sz' ys' hh
      simp only [Option.some.injEq, Prod.mk.injEq] at hx; obtain ⟨rfl, rfl⟩ := hx
      obtain ⟨rfl, hle⟩ := hp
      have hlen : ((ys'.drop off).take len).length = len := by simp; omega
      cases hv with
      | sl0 base => rw [List.take_zero] at *; exact ⟨by simp [Builtin.lenOf], empty base 0 rfl⟩
      | @sl _ _ _ _ b δ cap cur T fz hl hb hcap hlen' hm =>
        refine ⟨by simp only [Builtin.lenOf, Sem.run_pure, hlen], ?_⟩
        cases h.heap id _ hh with
        | ar0 _ hl' => rw [hl] at hl'; cases hl'
        | @ar b' δ' cur' T' _ _ us hl' hb' hz hsz hc hu =>
          rw [hl] at hl'; simp only [Option.some.injEq, Prod.mk.injEq] at hl'; obtain ⟨rfl, rfl⟩ := hl'
          have get : ∀ (i : Nat) y, ((ys'.drop off).take len)[i]? = some y → ys'[off + i]? = some y := fun i y hy => by
            rw [List.getElem?_take] at hy
            split at hy
            · rwa [List.getElem?_drop] at hy
            · cases hy
          have := row b (δ + off * sz) cap cur' T' _ (fun i j => us (off + i) j) hb' fun i j y z hy hz => by
            have hse : sz = es := by rw [← (hsz y (List.mem_of_getElem? (get i y hy))).1, (hfit y (List.mem_of_getElem? hy)).1]
            subst hse
            refine ⟨?_, hu _ _ _ _ (get i y hy) hz⟩
            have := hc _ _ _ _ (get i y hy) hz
            rw [Nat.add_mul] at this
            rw [show δ + off * sz + i * sz + j = δ + (off * sz + i * sz) + j by omega]; exact this
          rw [hlen] at this ⊢
          exact this
    · cases hx
  · cases hx

theorem RepV.cell_one {v : Value} {y : D} (h : RepV w ok v y) (hy : y.isAgg = false) : v.oneCell' = true := h.one1 hy

/-- A nil slice taken as one of the frame's own. -/
theorem RepL.readopt (h : RepL P c σ ρ w vs xs loc) (k : Nat) (h100 : (100 ≤ k ∧ k < 1000000000000)) (hku : σ.used k = true) (sz : Nat) : RepL P c (σ.renew k (.ar sz [])) ρ w vs (xs.map (AV.kill k)) (upd loc k none) := by
  have hl' : ∀ id, id ≠ k → upd loc k none id = loc id := fun id hne => by simp [upd, hne]
  have live : ∀ id, id ≠ k → Live ((σ.hp.kill k).set k (.ar sz [])) id → Live σ.hp id := fun id hne hl => by
    simp only [Live, HP.set, HP.kill, upd, hne, if_false] at hl ⊢
    intro he; apply hl; simp [he]
  have hk : ∀ b, okOf c w σ.hp loc b → okOf c w ((σ.hp.kill k).set k (.ar sz [])) (upd loc k none) b ∧ w.heap[b]? = w.heap[b]? := fun b ⟨h1, h2, h3⟩ =>
    ⟨⟨h1, h2, fun id δ hl => by
      by_cases hid : id = k
      · subst hid; simp [upd]
      · rw [hl' _ hid]; exact h3 id δ (live id hid hl)⟩, rfl⟩
  refine ⟨fun s => (h.slots s).mono_kill hk (Shapes.refl w) k hl', by simpa using h.len, fun i v x hv hx => ?_, fun id blk hblk => ?_, fun id id' b δ δ' l1 l2 e1 e2 => ?_, fun id b δ l1 e1 => ?_, h.ext, fun id hid => by rw [hl' id (by omega)]; exact h.fix id hid, fun id hid => ?_, fun id hl => ?_⟩
  · simp only [List.getElem?_map, Option.map_eq_some_iff] at hx
    obtain ⟨x', hx', rfl⟩ := hx
    exact (h.vals i v x' hv hx').mono_kill hk (Shapes.refl w) k hl'
  · by_cases hid : id = k
    · subst hid
      simp only [AS.renew, HP.set, upd, if_true, Option.some.injEq] at hblk
      subst hblk; exact .ar0 sz (by simp [upd])
    · simp only [AS.renew, HP.set, HP.kill, upd, hid, if_false, Option.map_eq_some_iff] at hblk
      obtain ⟨blk', hblk', rfl⟩ := hblk
      exact (h.heap id blk' hblk').mono_kill hid hk (Shapes.refl w) hl' fun _ _ _ => rfl
  · have h1 : id ≠ k := fun he => by subst he; simp [upd] at e1
    have h2 : id' ≠ k := fun he => by subst he; simp [upd] at e2
    exact h.inj id id' b δ δ' (live id h1 l1) (live id' h2 l2) (by rwa [hl' _ h1] at e1) (by rwa [hl' _ h2] at e2)
  · have h1 : id ≠ k := fun he => by subst he; simp [upd] at e1
    exact h.own id b δ (live id h1 l1) (by rwa [hl' _ h1] at e1)
  · have hne : id ≠ k := fun he => by subst he; simp only [AS.renew] at hid; rw [hku] at hid; cases hid
    rw [hl' id hne]; exact h.dom id hid
  · by_cases hid : id = k
    · rw [hid]; exact hku
    · exact h.liveU id (live id hid hl)

/-- A nil slice taken as one of the frame's own, under a free number. -/
theorem RepL.adopt (h : RepL P c σ ρ w vs xs loc) (k : Nat) (hf : σ.free k) (sz : Nat) : RepL P c (σ.new k (.ar sz [])) ρ w vs xs loc := by
  obtain ⟨hk0, hl0⟩ := h.free_heap hf
  have live : ∀ id, id ≠ k → Live (σ.hp.set k (.ar sz [])) id → Live σ.hp id := fun id hne hl => by simpa only [Live, HP.set, upd, hne, if_false] using hl
  have hne : ∀ id q, loc id = some q → id ≠ k := fun id q hq he => by rw [he, hl0] at hq; cases hq
  have hk : ∀ b, okOf c w σ.hp loc b → okOf c w (σ.hp.set k (.ar sz [])) loc b ∧ w.heap[b]? = w.heap[b]? := fun b ⟨h1, h2, h3⟩ =>
    ⟨⟨h1, h2, fun id δ hl he => h3 id δ (live id (hne id _ he) hl) he⟩, rfl⟩
  refine ⟨fun s => (h.slots s).mono hk (Shapes.refl w), h.len, fun i v x hv hx => (h.vals i v x hv hx).mono hk (Shapes.refl w), fun id blk hblk => ?_, fun id id' b δ δ' l1 l2 e1 e2 => h.inj id id' b δ δ' (live id (hne _ _ e1) l1) (live id' (hne _ _ e2) l2) e1 e2,
    fun id b δ l1 e1 => h.own id b δ (live id (hne _ _ e1) l1) e1, h.ext, h.fix, fun id hid => ?_, fun id hl => ?_⟩
  · by_cases hid : id = k
    · subst hid
      simp only [AS.new, HP.set, upd, if_true, Option.some.injEq] at hblk
      subst hblk; exact .ar0 sz hl0
    · simp only [AS.new, HP.set, upd, hid, if_false] at hblk
      exact (h.heap id blk hblk).mono hk (Shapes.refl w) fun _ _ _ => rfl
  · have hn : id ≠ k := fun he => by subst he; simp [AS.new, upd] at hid
    exact h.dom id (by simpa only [AS.new, upd, hn, if_false] using hid)
  · by_cases hid : id = k
    · subst hid; simp [AS.new, upd]
    · simp only [AS.new, upd, hid, if_false]
      exact h.liveU id (live id hid hl)

/-- The frame's own block is written, and its number's row begins elsewhere in it. -/
theorem RepL.rewrite {w' : World} (h : RepL P c σ ρ w vs xs loc) (k : Nat) (h100 : (100 ≤ k ∧ k < 1000000000000)) (b δ δ' : Nat) (blk : Blk) (hlive : Live σ.hp k) (hloc : loc k = some (b, δ))
    (hs : Shapes w w') (hw : w'.os = w.os ∧ w'.tape = w.tape ∧ w'.output = w.output) (hsz : w'.heap.size = w.heap.size)
    (hother : ∀ n, n ≠ b → w'.heap[n]? = w.heap[n]?)
    (hb : (∀ n, okOf c w σ.hp loc n → okOf c w' ((σ.hp.kill k).set k blk) (upd loc k (some (b, δ'))) n ∧ w'.heap[n]? = w.heap[n]?) →
      RepB P w' (okOf c w' ((σ.hp.kill k).set k blk) (upd loc k (some (b, δ')))) (upd loc k (some (b, δ'))) k blk) :
    RepL P c (σ.renew k blk) ρ w' vs (xs.map (AV.kill k)) (upd loc k (some (b, δ'))) := by
  have hl' : ∀ id, id ≠ k → upd loc k (some (b, δ')) id = loc id := fun id hne => by simp [upd, hne]
  have live : ∀ id, Live ((σ.hp.kill k).set k blk) id → Live σ.hp id := fun id hl => by
    by_cases hid : id = k
    · rw [hid]; exact hlive
    · simp only [Live, HP.set, HP.kill, upd, hid, if_false] at hl ⊢
      intro he; apply hl; simp [he]
  have hk : ∀ n, okOf c w σ.hp loc n → okOf c w' ((σ.hp.kill k).set k blk) (upd loc k (some (b, δ'))) n ∧ w'.heap[n]? = w.heap[n]? := fun n ⟨h1, h2, h3⟩ => by
    refine ⟨⟨by omega, h2, fun id δ1 hl he => ?_⟩, hother n fun he => h3 k δ hlive (he ▸ hloc)⟩
    by_cases hid : id = k
    · subst hid
      simp only [upd, if_true, Option.some.injEq, Prod.mk.injEq] at he
      exact h3 id δ hlive (he.1 ▸ hloc)
    · rw [hl' _ hid] at he; exact h3 id δ1 (live id hl) he
  obtain ⟨o1, o2, o3⟩ := h.own k b δ hlive hloc
  have floc : ∀ id b1 δ1, Live ((σ.hp.kill k).set k blk) id → upd loc k (some (b, δ')) id = some (b1, δ1) → ∃ δ2, loc id = some (b1, δ2) := fun id b1 δ1 _ he => by
    by_cases hid : id = k
    · subst hid
      simp only [upd, if_true, Option.some.injEq, Prod.mk.injEq] at he
      exact ⟨δ, he.1 ▸ hloc⟩
    · rw [hl' _ hid] at he; exact ⟨δ1, he⟩
  refine ⟨fun s => (h.slots s).mono_kill hk hs k hl', by simpa using h.len, fun i v x hv hx => ?_, fun id blk' hblk => ?_, fun id id' b' δ1 δ2 hl1 hl2 he1 he2 => ?_, fun id b' δ1 hl he => ?_, ?_, fun id hid => by rw [hl' id (by omega)]; exact h.fix id hid, fun id hid => ?_, fun id hl => h.liveU id (live id hl)⟩
  · simp only [List.getElem?_map, Option.map_eq_some_iff] at hx
    obtain ⟨x', hx', rfl⟩ := hx
    exact (h.vals i v x' hv hx').mono_kill hk hs k hl'
  · by_cases hid : id = k
    · subst hid
      simp only [AS.renew, HP.set, upd, if_true, Option.some.injEq] at hblk
      subst hblk; exact hb hk
    · simp only [AS.renew, HP.set, HP.kill, upd, hid, if_false, Option.map_eq_some_iff] at hblk
      obtain ⟨blk', hblk', rfl⟩ := hblk
      refine (h.heap id blk' hblk').mono_kill hid hk hs hl' fun b' δ1 he => hother b' fun hbb => hid ?_
      exact h.inj id k b δ1 δ (by simp [Live, hblk']) hlive (hbb ▸ he) hloc
  · obtain ⟨d1, g1⟩ := floc id b' δ1 hl1 he1
    obtain ⟨d2, g2⟩ := floc id' b' δ2 hl2 he2
    exact h.inj id id' b' d1 d2 (live id hl1) (live id' hl2) g1 g2
  · obtain ⟨d1, g1⟩ := floc id b' δ1 hl he
    obtain ⟨g1, g2, g3⟩ := h.own id b' d1 (live id hl) g1
    exact ⟨by omega, g2, g3⟩
  · refine ⟨hw.1.trans h.ext.os, hw.2.1.trans h.ext.tape, hw.2.2.trans h.ext.output, by have := h.ext.size; omega, fun n hn hm => ?_, h.ext.shape.trans hs⟩
    rw [hother n fun he => ?_]
    · exact h.ext.block n hn hm
    · subst he; rcases o3 with o3 | o3
      · omega
      · exact hm o3
  · have hne : id ≠ k := fun he => by subst he; have := h.liveU _ hlive; simp only [AS.renew] at hid; rw [this] at hid; cases hid
    rw [hl' id hne]; exact h.dom id hid

end
end Go.Fw

/- append, onto nil or onto a slice of the frame's own; a store into an element. -/
namespace Go.Fw
open Go

section
variable {P : Program} {c : Ctx} {σ : AS} {ρ : Nat → Value} {w : World} {vs : List Value} {xs : List AV} {loc : Nat → Option (Nat × Nat)} {ok : Nat → Prop}

theorem run_append_more {t t2 ty e e2 : TypeId} {i : TypeInfo} {z : Value} (ht : P.underlying t = some (.slice e)) (ht2 : P.underlying t2 = some (.slice e2)) (hi : P.info? e = some i) (hz : i.zero = some z)
    {base : Option Addr} {sLen sCap n : Nat} {v2 : Value} {olds news : Array Value} (hlen : (Builtin.lenOf v2).run P w = .ok n w)
    (hold : (Builtin.firstCells i.size sLen (.slice base sLen sCap)).run P w.drew = .ok olds w.drew) (hnew : (Builtin.firstCells i.size n v2).run P w.drew = .ok news w.drew)
    (hg : sCap < sLen + n) (h63 : sLen + n ≤ maxLen) (hby : (sLen + n) * i.bytes ≤ 140737488355328) :
    (Builtin.append_ #[t, t2] ty #[.slice base sLen sCap, v2]).run P w =
      .ok (.slice (some ⟨w.heap.size, 0, none⟩) (sLen + n) (grownCap w (sLen + n) sCap e)) (w.drew.alloc (.cells (olds ++ news ++ Builtin.zeroCells z.cells (grownCap w (sLen + n) sCap e - (sLen + n))) e)) := by
  have hfit := growslice_fits hg hby
  have hn : ¬ sLen + n ≤ sCap := by omega
  have hmax : ¬ ((sLen + n : Nat) : Int) > IntKind.i64.max := by
    rw [show IntKind.i64.max = 9223372036854775807 from by decide]; unfold maxLen at h63; omega
  have hf2 : ¬ Builtin.nextslicecap (sLen + n) sCap * i.bytes > 2 ^ 48 := by
    rw [show (2 : Nat) ^ 48 = 281474976710656 from by decide]; omega
  have hforced : (Question.appendCap (sLen + n) sCap e).forced = false := rfl
  simp only [Builtin.append_, List.getElem?_toArray, List.getElem?_cons_zero, List.getElem?_cons_succ, Sem.run_bind, run_underlying' ht, Result.andThen_ok, run_sizeOf' hi, run_underlying' ht2, Sem.run_pure,
    Bool.false_eq_true, if_false, hlen, if_neg hn, typeInfo, run_program, hi, if_neg hf2, choose, Sem.run, hforced, hmax, false_and, World.drew_eq, run_askRoom, hold, Bool.not_false, if_true, hnew, zeroValue, hz, newRow, run_newObj, World.alloc_eq]
  rfl

theorem run_append_fits' {t t2 ty e e2 : TypeId} {i : TypeInfo} (ht : P.underlying t = some (.slice e)) (ht2 : P.underlying t2 = some (.slice e2)) (hi : P.info? e = some i)
    {b o sLen sCap n : Nat} {v2 : Value} {news : Array Value} (hlen : (Builtin.lenOf v2).run P w = .ok n w) (hnew : (Builtin.firstCells i.size n v2).run P w = .ok news w)
    {cur : Array Value} {T : TypeId} (hb : w.heap[b]? = some (.cells cur T (0, 0))) (h1 : ∀ u ∈ news.toList, u.oneCell' = true) (hroom : sLen + n ≤ sCap) (hfit : o + sLen * i.size + news.size ≤ cur.size) :
    (Builtin.append_ #[t, t2] ty #[.slice (some ⟨b, o, none⟩) sLen sCap, v2]).run P w =
      .ok (.slice (some ⟨b, o, none⟩) (sLen + n) sCap) (w.setRow b (splice cur (o + sLen * i.size) news.toList)) := by
  have hst := run_storeCells_at P b (o + sLen * i.size) T news.toList 0 cur w hb (by simp; omega) h1
  simp only [Nat.add_zero] at hst
  simp only [Builtin.append_, List.getElem?_toArray, List.getElem?_cons_zero, List.getElem?_cons_succ, Sem.run_bind, run_underlying' ht, Result.andThen_ok, run_sizeOf' hi, run_underlying' ht2, Sem.run_pure,
    Bool.false_eq_true, if_false, hlen, if_pos hroom, Bool.not_false, if_true, hnew, Addr.add_none, hst, splice]

theorem run_append_none {t t2 ty e e2 : TypeId} {i : TypeInfo} (ht : P.underlying t = some (.slice e)) (ht2 : P.underlying t2 = some (.slice e2)) (hi : P.info? e = some i)
    {base : Option Addr} {v2 : Value} (hlen : (Builtin.lenOf v2).run P w = .ok 0 w) (hnew : (Builtin.firstCells i.size 0 v2).run P w = .ok #[] w) :
    (Builtin.append_ #[t, t2] ty #[.slice base 0 0, v2]).run P w = .ok (.slice base 0 0) w := by
  cases base with
  | none =>
    simp only [Builtin.append_, List.getElem?_toArray, List.getElem?_cons_zero, List.getElem?_cons_succ, Sem.run_bind, run_underlying' ht, Result.andThen_ok, run_sizeOf' hi, run_underlying' ht2, Sem.run_pure,
      Bool.false_eq_true, if_false, hlen, Nat.add_zero, Nat.le_refl, if_true, Bool.not_false, hnew]
  | some a =>
    simp only [Builtin.append_, List.getElem?_toArray, List.getElem?_cons_zero, List.getElem?_cons_succ, Sem.run_bind, run_underlying' ht, Result.andThen_ok, run_sizeOf' hi, run_underlying' ht2, Sem.run_pure,
      Bool.false_eq_true, if_false, hlen, Nat.add_zero, Nat.le_refl, if_true, Bool.not_false, hnew, storeCells]

/-- The cells of elements that lie in a row. -/
theorem cells_of_row {ys : List D} {es : Nat} (hfit : ∀ y ∈ ys, y.fits es) (i j : Nat) (y z : D) (hy : ys[i]? = some y) (hz : y.cells[j]? = some z) : j < es ∧ i < ys.length ∧ i * es + j < ys.length * es := by
  have hj : j < es := by have := (List.getElem?_eq_some_iff.1 hz).1; rw [(hfit y (List.mem_of_getElem? hy)).1] at this; exact this
  have hi : i < ys.length := (List.getElem?_eq_some_iff.1 hy).1
  refine ⟨hj, hi, ?_⟩
  have : (i + 1) * es ≤ ys.length * es := Nat.mul_le_mul_right _ hi
  rw [Nat.add_mul] at this; omega

/-- The world behind an append that has grown. -/
theorem grown_blk {hp hp' : HP} (k : Nat) (e : TypeId) (es : Nat) {os ys : List D} (ho : ∀ y ∈ os, y.fits es) (hy : ∀ y ∈ ys, y.fits es) (hpos : 0 < es)
    {go gn : Nat → Value} (hgo : ∀ (i j : Nat) y z, os[i]? = some y → y.cells[j]? = some z → RepV w (okOf c w hp loc) (go (i * es + j)) z)
    (hgn : ∀ (i j : Nat) y z, ys[i]? = some y → y.cells[j]? = some z → RepV w (okOf c w hp loc) (gn (i * es + j)) z)
    (rest : Array Value) (cap : Nat) (hrest : rest.size = (cap - (os.length + ys.length)) * es) (hcap : os.length + ys.length ≤ cap) (hm : cap ≤ maxLen) {loc' : Nat → Option (Nat × Nat)} (hl' : loc' k = some (w.heap.size, 0)) :
    let w' := w.alloc (.cells (((List.range (os.length * es)).map go).toArray ++ ((List.range (ys.length * es)).map gn).toArray ++ rest) e)
    (∀ b, okOf c w hp loc b → okOf c w' hp' loc' b ∧ w'.heap[b]? = w.heap[b]?) →
    RepB P w' (okOf c w' hp' loc') loc' k (.ar es (os ++ ys)) ∧ RepA P w' (okOf c w' hp' loc') loc' (.slice (some ⟨w.heap.size, 0, none⟩) (os.length + ys.length) cap) (.sl es k 0 (os.length + ys.length)) := by
  intro w' hok'
  have hsize : (((List.range (os.length * es)).map go).toArray ++ ((List.range (ys.length * es)).map gn).toArray ++ rest).size = cap * es := by
    simp only [Array.size_append, List.size_toArray, List.length_map, List.length_range, hrest]
    rw [Nat.sub_mul, ← Nat.add_mul]
    have : (os.length + ys.length) * es ≤ cap * es := Nat.mul_le_mul_right _ hcap
    omega
  have hall : ∀ y ∈ os ++ ys, y.fits es := fun y hy' => by
    rcases List.mem_append.1 hy' with h' | h'
    · exact ho y h'
    · exact hy y h'
  have hcell : ∀ (i j : Nat) x y, (os ++ ys)[i]? = some x → x.cells[j]? = some y →
      ∃ u, (((List.range (os.length * es)).map go).toArray ++ ((List.range (ys.length * es)).map gn).toArray ++ rest)[0 + i * es + j]? = some u ∧ RepV w (okOf c w hp loc) u y := by
    intro i j x y hx hy'
    rw [Nat.zero_add]
    rw [List.getElem?_append] at hx
    by_cases hi : i < os.length
    · rw [if_pos hi] at hx
      obtain ⟨a1, a2, a3⟩ := cells_of_row ho i j x y hx hy'
      refine ⟨go (i * es + j), ?_, hgo i j x y hx hy'⟩
      rw [Array.getElem?_append, if_pos (by simp; omega), Array.getElem?_append, if_pos (by simpa using a3)]
      simp [a3]
    · rw [if_neg hi] at hx
      obtain ⟨a1, a2, a3⟩ := cells_of_row hy (i - os.length) j x y hx hy'
      have e1 : i * es + j = os.length * es + ((i - os.length) * es + j) := by
        have : i * es = os.length * es + (i - os.length) * es := by rw [← Nat.add_mul]; congr 1; omega
        omega
      refine ⟨gn ((i - os.length) * es + j), ?_, hgn _ j x y hx hy'⟩
      rw [e1, Array.getElem?_append, if_pos (by simp; omega), Array.getElem?_append, if_neg (by simp)]
      simp [a3]
  refine ⟨.ar (b := w.heap.size) (δ := 0) (fun i j => (((List.range (os.length * es)).map go).toArray ++ ((List.range (ys.length * es)).map gn).toArray ++ rest)[0 + i * es + j]?.getD undef) hl' (heap_alloc_new w _)
    (by rw [hsize, List.length_append, Nat.zero_add]; exact Nat.mul_le_mul_right _ hcap) hall (fun i j x y hx hy' => ?_) fun i j x y hx hy' => ?_, ?_⟩
  · obtain ⟨u, hu, _⟩ := hcell i j x y hx hy'
    rw [hu]; rfl
  · obtain ⟨u, hu, hr⟩ := hcell i j x y hx hy'
    rw [hu]
    exact hr.mono hok'
  · have := RepA.sl (P := P) (w := w') (ok := okOf c w' hp' loc') (loc := loc') (sz := es) (id := k) (off := 0) (len := os.length + ys.length) (b := w.heap.size) (δ := 0) (cap := cap) hl' (heap_alloc_new w _) (by rw [hsize]; simp) hcap hm
    simpa using this

/-- append onto nil. -/
theorem RepL.appendNil (h : RepL P c σ ρ w vs xs loc) (k : Nat) (hf : σ.free k) {t t2 ty : TypeId} {es by' : Nat} {e : TypeId} {q : Nat × Nat × TypeId} {ag : Bool} {n : Nat} {z : List Value} (ht : tElem P t = some (es, by', e)) (ht2 : tElem P t2 = some q) (hz : tI P e = some (ag, n, z)) (hzl : z.length = es) (hpos : 0 < es)
    {x : AV} {p : Prop} {ys : List D} (hx : srcOf σ.hp x = some (p, ys)) (hp : p) {v2 : Value} (hv2 : RepA P w (okOf c w σ.hp loc) loc v2 x) (hfit : ∀ y ∈ ys, y.fits es)
    (h63 : ys.length ≤ 9223372036854775807) (hby : ys.length * by' ≤ 140737488355328) :
    ∃ v w' loc', (Builtin.append_ #[t, t2] ty #[.slice none 0 0, v2]).run P w = .ok v w' ∧ RepL P c (σ.new k (.ar es ys)) ρ w' vs xs loc' ∧
      RepA P w' (okOf c w' (σ.new k (.ar es ys)).hp loc') loc' v (.sl es k 0 ys.length) := by
  obtain ⟨hu, i, hi, rfl, rfl⟩ := tElem_und ht
  obtain ⟨q1, q2, q3⟩ := q
  obtain ⟨hu2, _⟩ := tElem_und ht2
  obtain ⟨i', zv, hi', hzv, hsz, rfl⟩ := tI_zero hz
  rw [hi] at hi'; simp only [Option.some.injEq] at hi'; subst hi'
  have hE := ExtW.drew w
  have h' := h.ext' hE
  obtain ⟨l1, g1, g2, g3⟩ := src_cells h hx hp hv2 i.size hfit
  replace g2 := g2 _ (Nat.le_refl _)
  rcases Nat.eq_zero_or_pos ys.length with h0 | h0
  · rw [h0] at l1
    rw [h0, Nat.zero_mul] at g2
    have hys : ys = [] := List.length_eq_zero_iff.1 h0
    subst hys
    exact ⟨_, _, _, run_append_none hu hu2 hi l1 g2, h.adopt k hf i.size, .sl0 _ _ _ _⟩
  · obtain ⟨_, g1', g2', g3'⟩ := src_cells h' hx hp (hv2.mono (okOf.step hE) (Shapes.of_ext hE)) i.size hfit
    replace g2' := g2' _ (Nat.le_refl _)
    have hold : (Builtin.firstCells i.size 0 (.slice none 0 0)).run P w.drew = .ok #[] w.drew := by simp [Builtin.firstCells]
    have hrun := run_append_more (ty := ty) hu hu2 hi hzv l1 hold g2' (by omega) (by unfold maxLen; omega) (by simpa using hby)
    simp only [Nat.zero_add] at hrun
    have hcap := grownCap_ge w ys.length 0 e
    have hcm := grownCap_le_maxLen w ys.length 0 e (by unfold maxLen; omega)
    have hg := grown_blk (P := P) (c := c) (w := w.drew) (loc := loc) (hp := σ.hp) (hp' := (σ.new k (.ar i.size ys)).hp) k e i.size (os := []) (by simp) hfit hpos (go := fun _ => undef) (by simp) g3' (Builtin.zeroCells zv.cells (grownCap w ys.length 0 e - ys.length)) (grownCap w ys.length 0 e)
      (by rw [size_zeroCells]; simp at hzl ⊢; rw [hzl]) (by simpa using hcap) hcm (loc' := upd loc k (some (w.heap.size, 0))) (by simp [upd]) fun b hb => ok_new h' hf _ 0 b hb
    simp only [List.length_nil, Nat.zero_mul, List.range_zero, List.map_nil, List.nil_append, Nat.zero_add] at hg
    exact ⟨_, _, upd loc k (some (w.heap.size, 0)), hrun, h'.new k hf _ _ 0 hg.1, hg.2⟩

/-- append onto a slice of the frame's own. -/
theorem RepL.append (h : RepL P c σ ρ w vs xs loc) {k off len : Nat} (h100 : (100 ≤ k ∧ k < 1000000000000)) {zs : List D} {t t2 ty : TypeId} {es by' : Nat} {e : TypeId} {q : Nat × Nat × TypeId} {ag : Bool} {n : Nat} {z : List Value} (ht : tElem P t = some (es, by', e)) (ht2 : tElem P t2 = some q) (hz : tI P e = some (ag, n, z)) (hzl : z.length = es) (hpos : 0 < es)
    (hk : σ.hp.heap k = some (.ar es zs)) (hlen : off + len = zs.length) {v1 : Value} (hv1 : RepA P w (okOf c w σ.hp loc) loc v1 (.sl es k off len))
    {x : AV} {p : Prop} {ys : List D} (hx : srcOf σ.hp x = some (p, ys)) (hp : p) {v2 : Value} (hv2 : RepA P w (okOf c w σ.hp loc) loc v2 x) (hfit : ∀ y ∈ ys, y.fits es)
    (h63 : len + ys.length ≤ 9223372036854775807) (hby : (len + ys.length) * by' ≤ 140737488355328) :
    ∃ v w' loc', (Builtin.append_ #[t, t2] ty #[v1, v2]).run P w = .ok v w' ∧ RepL P c (σ.renew k (.ar es (zs.drop off ++ ys))) ρ w' vs (xs.map (AV.kill k)) loc' ∧
      RepA P w' (okOf c w' (σ.renew k (.ar es (zs.drop off ++ ys))).hp loc') loc' v (.sl es k 0 (len + ys.length)) := by
  obtain ⟨hu, i, hi, rfl, rfl⟩ := tElem_und ht
  obtain ⟨q1, q2, q3⟩ := q
  obtain ⟨hu2, _⟩ := tElem_und ht2
  obtain ⟨i', zv, hi', hzv, hsz, rfl⟩ := tI_zero hz
  rw [hi] at hi'; simp only [Option.some.injEq] at hi'; subst hi'
  have hE := ExtW.drew w
  have h' := h.ext' hE
  obtain ⟨l1, g1, g2, g3⟩ := src_cells h hx hp hv2 i.size hfit
  replace g2 := g2 _ (Nat.le_refl _)
  have hol : (zs.drop off).length = len := by simp; omega
  have hku : σ.used k = true := h.liveU k (by simp [Live, hk])
  have hsrc : srcOf σ.hp (.sl i.size k off len) = some (i.size = i.size ∧ off + len ≤ zs.length, (zs.drop off).take len) := by simp only [srcOf, hk]
  have htake : (zs.drop off).take len = zs.drop off := List.take_of_length_le (by omega)
  rw [htake] at hsrc
  have hzfit : ∀ y ∈ zs, y.fits i.size := by
    cases h.heap k _ hk with
    | ar0 _ _ => simp
    | ar us _ _ _ hs _ _ => exact hs
  have hofit : ∀ y ∈ zs.drop off, y.fits i.size := fun y hy => hzfit y (List.mem_of_mem_drop hy)
  have grow : ∀ (base : Option Addr) (cap : Nat), v1 = .slice base len cap → cap < len + ys.length → ∃ v w' loc', (Builtin.append_ #[t, t2] ty #[v1, v2]).run P w = .ok v w' ∧ RepL P c (σ.renew k (.ar i.size (zs.drop off ++ ys))) ρ w' vs (xs.map (AV.kill k)) loc' ∧
      RepA P w' (okOf c w' (σ.renew k (.ar i.size (zs.drop off ++ ys))).hp loc') loc' v (.sl i.size k 0 (len + ys.length)) := by
    intro base cap hv hcap'
    obtain ⟨_, go, o2, o3⟩ := src_cells h' hsrc ⟨rfl, by omega⟩ (hv1.mono (okOf.step hE) (Shapes.of_ext hE)) i.size hofit
    replace o2 := o2 _ (Nat.le_refl _)
    obtain ⟨_, g1', g2', g3'⟩ := src_cells h' hx hp (hv2.mono (okOf.step hE) (Shapes.of_ext hE)) i.size hfit
    replace g2' := g2' _ (Nat.le_refl _)
    rw [hol, hv] at o2
    have hrun := run_append_more (ty := ty) hu hu2 hi hzv l1 o2 g2' hcap' (by unfold maxLen; omega) hby
    have hcap := grownCap_ge w (len + ys.length) cap e
    have hcm := grownCap_le_maxLen w (len + ys.length) cap e (by unfold maxLen; omega)
    have hg := grown_blk (P := P) (c := c) (w := w.drew) (loc := loc) (hp := σ.hp) (hp' := (σ.renew k (.ar i.size (zs.drop off ++ ys))).hp) k e i.size hofit hfit hpos o3 g3' (Builtin.zeroCells zv.cells (grownCap w (len + ys.length) cap e - (len + ys.length))) (grownCap w (len + ys.length) cap e)
      (by rw [size_zeroCells, hol]; simp at hzl ⊢; rw [hzl]) (by rw [hol]; exact hcap) hcm (loc' := upd loc k (some (w.heap.size, 0))) (by simp [upd]) fun b hb => ok_renew h' _ 0 b hb
    rw [hol] at hg
    subst hv
    exact ⟨_, _, upd loc k (some (w.heap.size, 0)), hrun, h'.renew k h100 hku _ _ 0 hg.1, hg.2⟩
  cases hv1 with
  | sl0 base =>
    simp only [Nat.add_zero] at hlen
    rcases Nat.eq_zero_or_pos ys.length with h0 | h0
    · have hys : ys = [] := List.length_eq_zero_iff.1 h0
      have hz0 : zs.drop off = [] := List.drop_of_length_le (by omega)
      subst hys
      rw [h0] at l1
      rw [h0, Nat.zero_mul] at g2
      rw [hz0, List.nil_append]
      exact ⟨_, _, _, run_append_none hu hu2 hi l1 g2, h.readopt k h100 hku i.size, .sl0 _ _ _ _⟩
    · exact grow base 0 rfl (by omega)
  | @sl _ _ _ _ b δ cap cur T fz hl hh hcap hlen' hm =>
    by_cases hroom : len + ys.length ≤ cap
    · cases h.heap k _ hk with
      | ar0 _ hl' => rw [hl] at hl'; cases hl'
      | @ar b' δ' cur' T' _ _ us hl' hb' hzz hs hc hu' =>
        rw [hl] at hl'; simp only [Option.some.injEq, Prod.mk.injEq] at hl'; obtain ⟨rfl, rfl⟩ := hl'
        rw [hh] at hb'; simp only [Option.some.injEq, Obj.cells.injEq] at hb'; obtain ⟨rfl, rfl, rfl⟩ := hb'
        have hone : ∀ u ∈ (((List.range (ys.length * i.size)).map g1).toArray).toList, u.oneCell' = true := fun u hu1 => by
          simp only [List.mem_map, List.mem_range] at hu1
          obtain ⟨r, hr, rfl⟩ := hu1
          have hi' : r / i.size < ys.length := (Nat.div_lt_iff_lt_mul hpos).2 hr
          have hjl : r % i.size < (ys[r / i.size]).cells.length := by rw [(hfit _ (List.getElem_mem _)).1]; exact Nat.mod_lt _ hpos
          have := g3 _ _ _ _ (List.getElem?_eq_getElem hi') (List.getElem?_eq_getElem hjl)
          have he : r / i.size * i.size + r % i.size = r := by rw [Nat.mul_comm]; exact Nat.div_add_mod r i.size
          rw [he] at this
          exact this.one1 ((hfit _ (List.getElem_mem hi')).2 _ (List.getElem_mem _))
        have hns : (((List.range (ys.length * i.size)).map g1).toArray).size = ys.length * i.size := by simp
        have hfits : δ + off * i.size + len * i.size + ys.length * i.size ≤ cur.size := by
          have : (off + (len + ys.length)) * i.size ≤ (off + cap) * i.size := Nat.mul_le_mul_right _ (by omega)
          rw [Nat.add_mul, Nat.add_mul] at this; omega
        have hrun := run_append_fits' (ty := ty) hu hu2 hi l1 g2 hh hone hroom (by rw [hns]; exact hfits)
        have hsp : δ + off * i.size + len * i.size + (((List.range (ys.length * i.size)).map g1).toArray).toList.length ≤ cur.size := by simpa using hfits
        have hlive : Live σ.hp k := by simp [Live, hk]
        have hsh := setRow_shapes (w := w) (cur' := splice cur (δ + off * i.size + len * i.size) (((List.range (ys.length * i.size)).map g1).toArray).toList) hh (splice_size hsp)
        refine ⟨_, _, upd loc k (some (b, δ + off * i.size)), hrun, ?_, ?_⟩
        · refine h.rewrite k h100 b δ (δ + off * i.size) _ hlive hl hsh ⟨rfl, rfl, rfl⟩ (setRow_size b _) (fun n hn => setRow_other hn) fun hk' => ?_
          have hcell : ∀ (a j : Nat) x y, (zs.drop off ++ ys)[a]? = some x → x.cells[j]? = some y →
              ∃ u, (splice cur (δ + off * i.size + len * i.size) (((List.range (ys.length * i.size)).map g1).toArray).toList)[δ + off * i.size + a * i.size + j]? = some u ∧ RepV w (okOf c w σ.hp loc) u y := by
            intro a j x y hx' hy'
            rw [List.getElem?_append, hol] at hx'
            by_cases ha : a < len
            · rw [if_pos ha] at hx'
              obtain ⟨a1, a2, a3⟩ := cells_of_row hofit a j x y hx' hy'
              rw [hol] at a3
              rw [List.getElem?_drop] at hx'
              have hcc := hc _ _ _ _ hx' hy'
              rw [Nat.add_mul] at hcc
              refine ⟨_, ?_, hu' _ _ _ _ hx' hy'⟩
              rw [splice_get hsp, if_neg (by omega), ← hcc]
              congr 1; omega
            · rw [if_neg ha] at hx'
              obtain ⟨a1, a2, a3⟩ := cells_of_row hfit (a - len) j x y hx' hy'
              have e1 : a * i.size = len * i.size + (a - len) * i.size := by rw [← Nat.add_mul]; congr 1; omega
              refine ⟨g1 ((a - len) * i.size + j), ?_, g3 _ j x y hx' hy'⟩
              rw [splice_get hsp, if_pos (by simp; omega)]
              rw [show δ + off * i.size + a * i.size + j - (δ + off * i.size + len * i.size) = (a - len) * i.size + j by omega]
              simp [a3]
          refine .ar (b := b) (δ := δ + off * i.size) (fun a j => (splice cur (δ + off * i.size + len * i.size) (((List.range (ys.length * i.size)).map g1).toArray).toList)[δ + off * i.size + a * i.size + j]?.getD undef)
            (by simp [upd]) (setRow_same hh) ?_ (fun y hy => ?_) (fun a j x y hx' hy' => ?_) fun a j x y hx' hy' => ?_
          · rw [splice_size hsp, List.length_append, hol, Nat.add_mul]; omega
          · rcases List.mem_append.1 hy with h1 | h1
            · exact hofit y h1
            · exact hfit y h1
          · obtain ⟨u, hu1, _⟩ := hcell a j x y hx' hy'
            rw [hu1]; rfl
          · obtain ⟨u, hu1, hr⟩ := hcell a j x y hx' hy'
            rw [hu1]
            exact hr.mono hk'
        · have := RepA.sl (P := P) (w := w.setRow b (splice cur (δ + off * i.size + len * i.size) (((List.range (ys.length * i.size)).map g1).toArray).toList)) (ok := okOf c (w.setRow b (splice cur (δ + off * i.size + len * i.size) (((List.range (ys.length * i.size)).map g1).toArray).toList)) (σ.renew k (.ar i.size (zs.drop off ++ ys))).hp (upd loc k (some (b, δ + off * i.size))))
            (loc := upd loc k (some (b, δ + off * i.size))) (sz := i.size) (id := k) (off := 0) (len := len + ys.length) (b := b) (δ := δ + off * i.size) (cap := cap) (by simp [upd]) (setRow_same hh) (by rw [splice_size hsp, Nat.zero_add]; rw [Nat.add_mul] at hcap; omega) hroom hm
          simpa using this
    · exact grow _ _ rfl (by omega)

/-- The cells of a slice over cells of the frame's own. -/
theorem src_cellsL (h : RepL P c σ ρ w vs xs loc) {id off m : Nat} {ds : List AV} (hk : σ.hp.heap id = some (.bx ds)) (hm : off + m ≤ ds.length) {v : Value} (hv : RepA P w (okOf c w σ.hp loc) loc v (.sl 1 id off m)) :
    (Builtin.lenOf v).run P w = .ok m w ∧ ∃ g : Nat → Value, (Builtin.firstCells 1 m v).run P w = .ok ((List.range m).map g).toArray w ∧ ∀ (j : Nat) y, j < m → ds[off + j]? = some y → RepA P w (okOf c w σ.hp loc) loc (g j) y := by
  cases hv with
  | sl0 base => exact ⟨by simp [Builtin.lenOf], fun _ => undef, by cases base <;> simp [Builtin.firstCells, loadCells, loadCellsFrom], fun j y hj => by omega⟩
  | @sl _ _ _ _ b δ cap cur T fz hl hh hcap hlen hmx =>
    cases h.heap id _ hk with
    | @bx b' cur' T' _ hl' hh' hz hcs =>
      rw [hl] at hl'; simp only [Option.some.injEq, Prod.mk.injEq] at hl'; obtain ⟨rfl, rfl⟩ := hl'
      refine ⟨by simp [Builtin.lenOf], fun j => (cur'[off + j]?).getD undef, ?_, fun j y hj hy => ?_⟩
      · simp only [Builtin.firstCells, Nat.mul_one]
        refine run_loadCells w _ _ _ fun q hq => ?_
        rw [Addr.add_none, cell_of_block hh', show 0 + off + q = off + q by omega, Array.getElem?_eq_getElem (by omega)]
        rfl
      · have hlt : off + j < ds.length := (List.getElem?_eq_some_iff.1 hy).1
        have he : cur'[off + j]? = some (cur'[off + j]'(by omega)) := Array.getElem?_eq_getElem _
        show RepA P w (okOf c w σ.hp loc) loc ((cur'[off + j]?).getD undef) y
        rw [he]
        exact hcs _ _ y he hy

set_option maxHeartbeats 1000000 in
/-- append of cells that stay as they are onto a slice of the frame's own. -/
theorem RepL.appendL (h : RepL P c σ ρ w vs xs loc) {k len : Nat} (h100 : (100 ≤ k ∧ k < 1000000000000)) {cs ds : List AV} {t t2 ty : TypeId} {by' : Nat} {e : TypeId} {q : Nat × Nat × TypeId} {ag : Bool} {n : Nat} {z : List Value} (ht : tElem P t = some (1, by', e)) (ht2 : tElem P t2 = some q) (hz : tI P e = some (ag, n, z)) (hzl : z.length = 1)
    (hk : σ.hp.heap k = some (.bx cs)) (hlen : len ≤ cs.length) {v1 : Value} (hv1 : RepA P w (okOf c w σ.hp loc) loc v1 (.sl 1 k 0 len))
    {id m : Nat} (hid : σ.hp.heap id = some (.bx ds)) (hm : m ≤ ds.length) {v2 : Value} (hv2 : RepA P w (okOf c w σ.hp loc) loc v2 (.sl 1 id 0 m)) (hone : ∀ y ∈ ds.take m, y.cell1 = true) (hpos : 0 < m)
    (h63 : len + m ≤ 9223372036854775807) (hby : (len + m) * by' ≤ 140737488355328) :
    ∃ v w' loc' r, (Builtin.append_ #[t, t2] ty #[v1, v2]).run P w = .ok v w' ∧ RepL P c (σ.renew k (.bx ((cs.take len ++ ds.take m).map (AV.kill k) ++ List.replicate r .unk))) ρ w' vs (xs.map (AV.kill k)) loc' ∧
      RepA P w' (okOf c w' (σ.renew k (.bx ((cs.take len ++ ds.take m).map (AV.kill k) ++ List.replicate r .unk))).hp loc') loc' v (.sl 1 k 0 (len + m)) := by
  obtain ⟨hu, i, hi, hes, rfl⟩ := tElem_und ht
  obtain ⟨q1, q2, q3⟩ := q
  obtain ⟨hu2, _⟩ := tElem_und ht2
  obtain ⟨i', zv, hi', hzv, hsz, rfl⟩ := tI_zero hz
  rw [hi] at hi'; simp only [Option.some.injEq] at hi'; subst hi'
  have hE := ExtW.drew w
  have h' := h.ext' hE
  have hku : σ.used k = true := h.liveU k (by simp [Live, hk])
  obtain ⟨l1, g1, g2, g3⟩ := src_cellsL h hid (by omega) hv2
  have hctl : (cs.take len).length = len := by simp; omega
  have hdtl : (ds.take m).length = m := by simp; omega
  have grow : ∀ (base : Option Addr) (cap : Nat), v1 = .slice base len cap → cap < len + m → ∃ v w' loc' r, (Builtin.append_ #[t, t2] ty #[v1, v2]).run P w = .ok v w' ∧ RepL P c (σ.renew k (.bx ((cs.take len ++ ds.take m).map (AV.kill k) ++ List.replicate r .unk))) ρ w' vs (xs.map (AV.kill k)) loc' ∧
      RepA P w' (okOf c w' (σ.renew k (.bx ((cs.take len ++ ds.take m).map (AV.kill k) ++ List.replicate r .unk))).hp loc') loc' v (.sl 1 k 0 (len + m)) := by
    intro base cap hv hcap'
    obtain ⟨_, go, o2, o3⟩ := src_cellsL h' hk (by omega) (hv1.mono (okOf.step hE) (Shapes.of_ext hE))
    obtain ⟨_, gn, n2, n3⟩ := src_cellsL h' hid (by omega) (hv2.mono (okOf.step hE) (Shapes.of_ext hE))
    rw [hv] at o2
    rw [← hes] at o2 n2
    have hrun := run_append_more (ty := ty) hu hu2 hi hzv l1 o2 n2 hcap' (by unfold maxLen; omega) hby
    have hcap := grownCap_ge w (len + m) cap e
    have hcm := grownCap_le_maxLen w (len + m) cap e (by unfold maxLen; omega)
    subst hv
    have hzs : (Builtin.zeroCells zv.cells (grownCap w (len + m) cap e - (len + m))).size = grownCap w (len + m) cap e - (len + m) := by
      rw [size_zeroCells]; simp at hzl; rw [hzl]; omega
    refine ⟨_, _, upd loc k (some (w.heap.size, 0)), grownCap w (len + m) cap e - (len + m), hrun, h'.renew k h100 hku _ _ 0 ?_, ?_⟩
    · refine .bx (by simp [upd]) (heap_alloc_new w.drew _) ?_ fun j u y hju hjy => ?_
      · simp only [Array.size_append, hzs]
        simp
        omega
      · rcases Nat.lt_or_ge j (len + m) with hj | hj
        · rw [List.getElem?_append_left (by simp; omega), List.getElem?_map, Option.map_eq_some_iff] at hjy
          obtain ⟨y', hy', rfl⟩ := hjy
          rw [Array.getElem?_append_left (by simp; omega)] at hju
          have key : RepA P w.drew (okOf c w.drew σ.hp loc) loc u y' := by
            rcases Nat.lt_or_ge j len with hj1 | hj1
            · rw [List.getElem?_append_left (by omega), List.getElem?_take, if_pos hj1] at hy'
              rw [Array.getElem?_append_left (by simp; omega)] at hju
              simp [hj1] at hju
              subst hju
              exact o3 j y' hj1 (by simpa using hy')
            · rw [List.getElem?_append_right (by omega), hctl, List.getElem?_take, if_pos (by omega)] at hy'
              rw [Array.getElem?_append_right (by simp; omega)] at hju
              simp [show j - len < m by omega] at hju
              subst hju
              exact n3 (j - len) y' (by omega) (by simpa using hy')
          exact key.mono_kill (ok_renew h' _ 0) (Shapes.of_ext (ExtW.alloc w.drew _)) k fun id' hne => by simp [upd, hne]
        · rw [List.getElem?_append_right (by simp; omega), List.getElem?_replicate] at hjy
          split at hjy
          · simp only [Option.some.injEq] at hjy; subst hjy; exact .unk _
          · cases hjy
    · have := RepA.sl (P := P) (w := w.drew.alloc (.cells (((List.range len).map go).toArray ++ ((List.range m).map gn).toArray ++ Builtin.zeroCells zv.cells (grownCap w (len + m) cap e - (len + m))) e))
        (ok := okOf c (w.drew.alloc (.cells (((List.range len).map go).toArray ++ ((List.range m).map gn).toArray ++ Builtin.zeroCells zv.cells (grownCap w (len + m) cap e - (len + m))) e)) (σ.renew k (.bx ((cs.take len ++ ds.take m).map (AV.kill k) ++ List.replicate (grownCap w (len + m) cap e - (len + m)) .unk))).hp (upd loc k (some (w.heap.size, 0))))
        (loc := upd loc k (some (w.heap.size, 0))) (sz := 1) (id := k) (off := 0) (len := len + m) (b := w.heap.size) (δ := 0) (cap := grownCap w (len + m) cap e) (by simp [upd]) (heap_alloc_new w.drew _) (by simp only [Array.size_append, hzs]; simp; omega) hcap hcm
      simpa using this
  cases hv1 with
  | sl0 base => exact grow base 0 rfl (by omega)
  | @sl _ _ _ _ b δ cap cur T fz hl hh hcap hlen' hmx =>
    by_cases hroom : len + m ≤ cap
    · cases h.heap k _ hk with
      | @bx b' cur' T' _ hl' hb' hzz hcs =>
        rw [hl] at hl'; simp only [Option.some.injEq, Prod.mk.injEq] at hl'; obtain ⟨rfl, rfl⟩ := hl'
        rw [hh] at hb'; simp only [Option.some.injEq, Obj.cells.injEq] at hb'; obtain ⟨rfl, rfl, rfl⟩ := hb'
        have hlk : ∀ u ∈ ((List.range m).map g1).toArray.toList, u.oneCell' = true := fun u hu1 => by
          simp only [List.mem_map, List.mem_range] at hu1
          obtain ⟨r, hr, rfl⟩ := hu1
          have hy : ds[r]? = some (ds[r]'(by omega)) := List.getElem?_eq_getElem _
          exact (g3 r _ hr (by rw [Nat.zero_add]; exact hy)).one1 (hone _ (by
            refine List.mem_of_getElem? (i := r) ?_
            rw [List.getElem?_take, if_pos hr]; exact hy))
        have hns : (((List.range m).map g1).toArray).size = m := by simp
        rw [← hes] at g2
        have hrun := run_append_fits' (ty := ty) (o := 0 + 0 * 1) hu hu2 hi l1 g2 hh hlk hroom (by rw [hns, hes]; omega)
        rw [hes] at hrun
        have hng : ∀ j, j < m → (((List.range m).map g1).toArray).toList[j]? = some (g1 j) := fun j hj => by simp [hj]
        have hnl : (((List.range m).map g1).toArray).toList.length = m := by simp
        generalize (((List.range m).map g1).toArray).toList = news at *
        have e0 : 0 + 0 * 1 + len * 1 = len := by omega
        rw [e0] at hrun
        have hsp : len + news.length ≤ cur.size := by omega
        have hlive : Live σ.hp k := by simp [Live, hk]
        have hsz2 := splice_size hsp
        have hget := splice_get hsp
        generalize splice cur len news = cur2 at *
        have hsh := setRow_shapes (w := w) (cur' := cur2) hh hsz2
        have hcl : cur.size = cs.length := hzz
        refine ⟨_, _, upd loc k (some (b, 0)), cs.length - (len + m), hrun, ?_, ?_⟩
        · refine h.rewrite k h100 b 0 0 _ hlive hl hsh ⟨rfl, rfl, rfl⟩ (setRow_size b _) (fun n hn => setRow_other hn) fun hk' => ?_
          refine .bx (by simp [upd]) (setRow_same hh) (by rw [hsz2, List.length_append, List.length_map, List.length_append, hctl, hdtl, List.length_replicate]; omega) fun j u y hju hjy => ?_
          rw [hget] at hju
          rcases Nat.lt_or_ge j (len + m) with hj | hj
          · rw [List.getElem?_append_left (by rw [List.length_map, List.length_append, hctl, hdtl]; omega), List.getElem?_map, Option.map_eq_some_iff] at hjy
            obtain ⟨y', hy', rfl⟩ := hjy
            have key : RepA P w (okOf c w σ.hp loc) loc u y' := by
              rcases Nat.lt_or_ge j len with hj1 | hj1
              · rw [List.getElem?_append_left (by omega), List.getElem?_take, if_pos hj1] at hy'
                rw [if_neg (by omega)] at hju
                exact hcs j u y' hju hy'
              · rw [List.getElem?_append_right (by omega), hctl, List.getElem?_take, if_pos (by omega)] at hy'
                rw [if_pos (by omega), hng (j - len) (by omega)] at hju
                simp only [Option.some.injEq] at hju
                subst hju
                exact g3 (j - len) y' (by omega) (by rw [Nat.zero_add]; exact hy')
            exact key.mono_kill hk' hsh k fun id' hne => by simp [upd, hne]
          · rw [List.getElem?_append_right (by rw [List.length_map, List.length_append, hctl, hdtl]; omega), List.getElem?_replicate] at hjy
            split at hjy
            · simp only [Option.some.injEq] at hjy; subst hjy; exact .unk _
            · cases hjy
        · have := RepA.sl (P := P) (w := w.setRow b cur2) (ok := okOf c (w.setRow b cur2) (σ.renew k (.bx ((cs.take len ++ ds.take m).map (AV.kill k) ++ List.replicate (cs.length - (len + m)) .unk))).hp (upd loc k (some (b, 0))))
            (loc := upd loc k (some (b, 0))) (sz := 1) (id := k) (off := 0) (len := len + m) (b := b) (δ := 0) (cap := cap) (by simp [upd]) (setRow_same hh) (by rw [hsz2]; omega) hroom hmx
          simpa using this
    · exact grow _ _ rfl (by omega)

set_option maxHeartbeats 1000000 in
/-- append of cells that stay as they are onto nil. -/
theorem RepL.appendNilL (h : RepL P c σ ρ w vs xs loc) (k : Nat) (hf : σ.free k) {ds : List AV} {t t2 ty : TypeId} {by' : Nat} {e : TypeId} {q : Nat × Nat × TypeId} {ag : Bool} {n : Nat} {z : List Value} (ht : tElem P t = some (1, by', e)) (ht2 : tElem P t2 = some q) (hz : tI P e = some (ag, n, z)) (hzl : z.length = 1)
    {id m : Nat} (hid : σ.hp.heap id = some (.bx ds)) (hm : m ≤ ds.length) {v2 : Value} (hv2 : RepA P w (okOf c w σ.hp loc) loc v2 (.sl 1 id 0 m)) (hpos : 0 < m)
    (h63 : m ≤ 9223372036854775807) (hby : m * by' ≤ 140737488355328) :
    ∃ v w' loc' r, (Builtin.append_ #[t, t2] ty #[.slice none 0 0, v2]).run P w = .ok v w' ∧ RepL P c (σ.new k (.bx (ds.take m ++ List.replicate r .unk))) ρ w' vs xs loc' ∧
      RepA P w' (okOf c w' (σ.new k (.bx (ds.take m ++ List.replicate r .unk))).hp loc') loc' v (.sl 1 k 0 m) := by
  obtain ⟨hu, i, hi, hes, rfl⟩ := tElem_und ht
  obtain ⟨q1, q2, q3⟩ := q
  obtain ⟨hu2, _⟩ := tElem_und ht2
  obtain ⟨i', zv, hi', hzv, hsz, rfl⟩ := tI_zero hz
  rw [hi] at hi'; simp only [Option.some.injEq] at hi'; subst hi'
  have hE := ExtW.drew w
  have h' := h.ext' hE
  obtain ⟨l1, _⟩ := src_cellsL h hid (by omega) hv2
  have hdtl : (ds.take m).length = m := by simp; omega
  obtain ⟨_, gn, n2, n3⟩ := src_cellsL h' hid (by omega) (hv2.mono (okOf.step hE) (Shapes.of_ext hE))
  have hold : (Builtin.firstCells i.size 0 (.slice none 0 0)).run P w.drew = .ok #[] w.drew := by simp [Builtin.firstCells]
  rw [← hes] at n2
  have hrun := run_append_more (ty := ty) hu hu2 hi hzv l1 hold n2 (by omega) (by unfold maxLen; omega) (by simpa using hby)
  simp only [Nat.zero_add] at hrun
  have hcap := grownCap_ge w m 0 e
  have hcm := grownCap_le_maxLen w m 0 e (by unfold maxLen; omega)
  have hzs : (Builtin.zeroCells zv.cells (grownCap w m 0 e - m)).size = grownCap w m 0 e - m := by
    rw [size_zeroCells]; simp at hzl; rw [hzl]; omega
  refine ⟨_, _, upd loc k (some (w.heap.size, 0)), grownCap w m 0 e - m, hrun, h'.new k hf _ _ 0 ?_, ?_⟩
  · refine .bx (by simp [upd]) (heap_alloc_new w.drew _) ?_ fun j u y hju hjy => ?_
    · simp only [Array.size_append, hzs]
      simp
      omega
    · rcases Nat.lt_or_ge j m with hj | hj
      · rw [List.getElem?_append_left (by omega), List.getElem?_take, if_pos hj] at hjy
        rw [Array.getElem?_append_left (by simp; omega)] at hju
        simp [hj] at hju
        subst hju
        have key := n3 j y hj (by simpa using hjy)
        exact key.mono_ext (ok_new h' hf _ 0) (Shapes.of_ext (ExtW.alloc w.drew _)) fun id' q' hq' => by
          have : id' ≠ k := fun he => by rw [he, (h'.free_heap hf).2] at hq'; cases hq'
          simp [upd, this, hq']
      · rw [List.getElem?_append_right (by omega), List.getElem?_replicate] at hjy
        split at hjy
        · simp only [Option.some.injEq] at hjy; subst hjy; exact .unk _
        · cases hjy
  · have := RepA.sl (P := P) (w := w.drew.alloc (.cells (#[] ++ ((List.range m).map gn).toArray ++ Builtin.zeroCells zv.cells (grownCap w m 0 e - m)) e))
      (ok := okOf c (w.drew.alloc (.cells (#[] ++ ((List.range m).map gn).toArray ++ Builtin.zeroCells zv.cells (grownCap w m 0 e - m)) e)) (σ.new k (.bx (ds.take m ++ List.replicate (grownCap w m 0 e - m) .unk))).hp (upd loc k (some (w.heap.size, 0))))
      (loc := upd loc k (some (w.heap.size, 0))) (sz := 1) (id := k) (off := 0) (len := m) (b := w.heap.size) (δ := 0) (cap := grownCap w m 0 e) (by simp [upd]) (heap_alloc_new w.drew _) (by simp only [Array.size_append, hzs]; simp; omega) hcap hcm
    simpa using this

/-- A store into an element of a slice of the frame's own: 'y' is the element afterwards. -/
theorem RepL.storeElem (h : RepL P c σ ρ w vs xs loc) {k i o es : Nat} {zs : List D} (hk : σ.hp.heap k = some (.ar es zs)) {va v : Value} (ha : RepA P w (okOf c w σ.hp loc) loc va (.ep es k i o))
    {t : TypeId} {ag : Bool} {n : Nat} {z : List Value} (ht : tI P t = some (ag, n, z)) {x : AV} (hx : RepA P w (okOf c w σ.hp loc) loc v x)
    {p : Prop} {dx : D} {l : List Nat} (hd : toD σ.hp x = some (p, dx, l)) (hp : p) (hkl : k ∉ l) (hi : i < zs.length) (hpos : 0 < es) (hn : dx.fits n) {old y : D} (hold : zs[i]? = some old) (hon : o + n ≤ es) (hy : y.fits es)
    (hcy : ∀ j z, y.cells[j]? = some z → (o ≤ j ∧ j < o + n ∧ dx.cells[j - o]? = some z) ∨ (¬ (o ≤ j ∧ j < o + n) ∧ old.cells[j]? = some z)) :
    ∃ w', (Instr.storeAt t va v).run P w = .ok () w' ∧ RepL P c { σ with hp := (σ.hp.dropL l).set k (.ar es (zs.set i y)) } ρ w' vs xs loc := by
  cases ha with | @ep _ _ _ _ b δ hl =>
  have hdx := toD_rep h hd hp hx (l' := l) fun i hi => hi
  have h2 := RepL.dropL l h
  have hk2 : (σ.hp.dropL l).heap k = some (.ar es zs) := by rw [dropL_heap, if_neg hkl]; exact hk
  have hlive : Live (σ.hp.dropL l) k := by simp [Live, hk2]
  cases h2.heap k _ hk2 with
  | ar0 _ _ => simp at hi
  | @ar b' δ' cur T _ _ us hl' hh hz hs hc hu =>
    rw [hl] at hl'; simp only [Option.some.injEq, Prod.mk.injEq] at hl'; obtain ⟨rfl, rfl⟩ := hl'
    obtain ⟨c1, c2⟩ := hdx.cells
    have hvs : v.cells.size = n := by rw [c1, hn.1]
    have hend : δ + i * es + o + n ≤ cur.size := by
      have : (i + 1) * es ≤ zs.length * es := Nat.mul_le_mul_right _ hi
      rw [Nat.add_mul] at this; omega
    have hone : ∀ u ∈ v.cells.toList, u.oneCell' = true := fun u hu1 => by
      obtain ⟨j, hj, rfl⟩ := List.getElem_of_mem hu1
      simp only [Array.length_toList] at hj
      rw [Array.getElem_toList]
      exact (c2 j _ (dx.cells[j]'(by omega)) (Array.getElem?_eq_getElem hj) (List.getElem?_eq_getElem (by omega))).one1 (hn.2 _ (List.getElem_mem _))
    have hst := run_storeCells_at P b (δ + i * es + o) T v.cells.toList 0 cur w hh (by simp; omega) hone
    obtain ⟨_, hsz, _⟩ := tI_runs (w := w) ht
    simp only [Nat.add_zero] at hst
    have hsp : δ + i * es + o + v.cells.toList.length ≤ cur.size := by simp; omega
    refine ⟨w.setRow b (splice cur (δ + i * es + o) v.cells.toList), ?_, ?_⟩
    · simp only [Instr.storeAt, Instr.sureAddr, Sem.run_bind, Sem.run_pure, Result.andThen_ok, storeVar, hsz]
      rw [if_neg (by simp; omega)]
      simp only [Sem.run_bind, Sem.run_pure, Result.andThen_ok, hst, splice]
    · have hsh := setRow_shapes (w := w) (cur' := splice cur (δ + i * es + o) v.cells.toList) hh (splice_size hsp)
      refine h2.write k b δ _ hlive hl hsh ⟨rfl, rfl, rfl⟩ (setRow_size b _) (fun m hm => setRow_other hm) fun hk' => ?_
      have hcell : ∀ (a j : Nat) x' y', (zs.set i y)[a]? = some x' → x'.cells[j]? = some y' →
          ∃ u, (splice cur (δ + i * es + o) v.cells.toList)[δ + a * es + j]? = some u ∧ RepV w (okOf c w (σ.hp.dropL l) loc) u y' := by
        intro a j x' y' hx' hy'
        have hzf : ∀ x ∈ zs.set i y, x.fits es := fun x hx1 => by
          rcases List.mem_or_eq_of_mem_set hx1 with h1 | h1
          · exact hs x h1
          · rw [h1]; exact hy
        obtain ⟨a1, a2, a3⟩ := cells_of_row hzf a j x' y' hx' hy'
        by_cases hai : a = i
        · subst hai
          rw [List.getElem?_set_self hi] at hx'
          simp only [Option.some.injEq] at hx'; subst hx'
          rcases hcy j y' hy' with ⟨g1, g2, g3⟩ | ⟨g1, g2⟩
          · have hjl : j - o < v.cells.size := by omega
            refine ⟨v.cells[j - o], ?_, c2 _ _ _ (Array.getElem?_eq_getElem hjl) g3⟩
            rw [splice_get hsp, if_pos (by simp; omega), show δ + a * es + j - (δ + a * es + o) = j - o by omega, Array.getElem?_toList, Array.getElem?_eq_getElem hjl]
          · refine ⟨us a j, ?_, hu a j old y' hold g2⟩
            rw [splice_get hsp, if_neg (by simp; omega)]
            exact hc a j old y' hold g2
        · rw [List.getElem?_set_ne (Ne.symm hai)] at hx'
          refine ⟨us a j, ?_, hu a j x' y' hx' hy'⟩
          rw [splice_get hsp, if_neg ?_]
          · exact hc a j x' y' hx' hy'
          · simp only [Array.length_toList, hvs]
            rcases Nat.lt_or_gt_of_ne hai with h1 | h1
            · have : (a + 1) * es ≤ i * es := Nat.mul_le_mul_right _ h1
              rw [Nat.add_mul] at this; omega
            · have : (i + 1) * es ≤ a * es := Nat.mul_le_mul_right _ h1
              rw [Nat.add_mul] at this; omega
      refine .ar (b := b) (δ := δ) (fun a j => (splice cur (δ + i * es + o) v.cells.toList)[δ + a * es + j]?.getD undef) hl (setRow_same hh) (by rw [splice_size hsp, List.length_set]; exact hz) (fun x' hx' => ?_) (fun a j x' y' hx' hy' => ?_) fun a j x' y' hx' hy' => ?_
      · rcases List.mem_or_eq_of_mem_set hx' with h1 | h1
        · exact hs x' h1
        · rw [h1]; exact hy
      · obtain ⟨u, hu1, _⟩ := hcell a j x' y' hx' hy'
        rw [hu1]; rfl
      · obtain ⟨u, hu1, hr⟩ := hcell a j x' y' hx' hy'
        rw [hu1]
        exact hr.mono hk'

/-- A row of one-cell elements, with some of them written over. -/
theorem RepL.copy (h : RepL P c σ ρ w vs xs loc) {k off dl : Nat} {zs : List D} (hk : σ.hp.heap k = some (.ar 1 zs)) {v1 v2 : Value} (ha : RepA P w (okOf c w σ.hp loc) loc v1 (.sl 1 k off dl)) (hin : off + dl ≤ zs.length)
    {t t2 ty : TypeId} {by' : Nat} {e : TypeId} (ht : tElem P t = some (1, by', e)) {x : AV} {p : Prop} {ys : List D} (hx : srcOf σ.hp x = some (p, ys)) (hp : p) (hv2 : RepA P w (okOf c w σ.hp loc) loc v2 x) (hfit : ∀ y ∈ ys, y.isAgg = false) (hpos : 0 < min ys.length dl) :
    ∃ w', (Builtin.copy_ #[t, t2] ty #[v1, v2]).run P w = .ok (.int .i64 ((min ys.length dl : Nat) : Int)) w' ∧ RepL P c { σ with hp := σ.hp.set k (.ar 1 (zs.take off ++ ys.take (min ys.length dl) ++ zs.drop (off + min ys.length dl))) } ρ w' vs xs loc := by
  obtain ⟨hu, i, hi, hi1, rfl⟩ := tElem_und ht
  have hcell : ∀ y : D, y.isAgg = false → y.cells = [y] := fun y hy => by cases y <;> first | rfl | (simp [D.isAgg] at hy)
  have hfit1 : ∀ y ∈ ys, y.fits 1 := fun y hy => by
    have h1 := hcell y (hfit y hy)
    exact ⟨by rw [h1]; rfl, fun z hz => by rw [h1] at hz; simp at hz; subst hz; exact hfit _ hy⟩
  obtain ⟨l1, g, hg, hr⟩ := src_cells h hx hp hv2 1 hfit1
  have hlive : Live σ.hp k := by simp [Live, hk]
  generalize hn : min ys.length dl = n at hpos ⊢
  have hn1 : n ≤ ys.length := by omega
  have hn2 : n ≤ dl := by omega
  cases ha with
  | sl0 _ _ _ _ => omega
  | @sl _ _ _ _ b δ cap c0 T0 fz0 hl hb0 hcap hlen hm =>
  cases h.heap k _ hk with
  | ar0 _ _ => simp at hin; omega
  | @ar b' δ' cur T _ _ us hl' hh hz hs hc hu2 =>
    rw [hl] at hl'; simp only [Option.some.injEq, Prod.mk.injEq] at hl'; obtain ⟨rfl, rfl⟩ := hl'
    have hgn := hg n hn1
    simp only [Nat.mul_one] at hgn hz hc
    have hval : ∀ q, q < n → ∃ z, ys[q]? = some z ∧ RepV w (okOf c w σ.hp loc) (g q) z ∧ z.isAgg = false := fun q hq => by
      have hq' : q < ys.length := by omega
      have ha := hfit ys[q] (List.getElem_mem hq')
      have := hr q 0 ys[q] ys[q] (List.getElem?_eq_getElem hq') (by rw [hcell _ ha]; rfl)
      simp only [Nat.mul_one, Nat.add_zero] at this
      exact ⟨_, List.getElem?_eq_getElem hq', this, ha⟩
    have hone : ∀ u ∈ (List.range n).map g, u.oneCell' = true := fun u hu1 => by
      simp only [List.mem_map, List.mem_range] at hu1
      obtain ⟨q, hq, rfl⟩ := hu1
      obtain ⟨z, _, h2, h3⟩ := hval q hq
      exact h2.one1 h3
    have hst := run_storeCells_at P b (δ + off * 1) T ((List.range n).map g) 0 cur w hh (by simp; omega) hone
    simp only [Nat.add_zero, Nat.mul_one] at hst
    have hsp : δ + off * 1 + ((List.range n).map g).length ≤ cur.size := by simp; omega
    refine ⟨w.setRow b (splice cur (δ + off * 1) ((List.range n).map g)), ?_, ?_⟩
    · have hmin : Nat.min ys.length dl = n := hn
      simp [Builtin.copy_, run_underlying' hu, l1, run_sizeOf' hi, hi1, hmin, hgn, hst, splice, goInt]
    · have hsh := setRow_shapes (w := w) (cur' := splice cur (δ + off * 1) ((List.range n).map g)) hh (splice_size hsp)
      refine h.write k b δ _ hlive hl hsh ⟨rfl, rfl, rfl⟩ (setRow_size b _) (fun m hm => setRow_other hm) fun hk' => ?_
      have hlen' : (zs.take off ++ ys.take n ++ zs.drop (off + n)).length = zs.length := by simp; omega
      have hget : ∀ (a : Nat), (zs.take off ++ ys.take n ++ zs.drop (off + n))[a]? = if off ≤ a ∧ a < off + n then ys[a - off]? else zs[a]? := fun a => by
        have e1 : (zs.take off).length = off := by simp; omega
        have e2 : (ys.take n).length = n := by simp; omega
        rw [List.append_assoc, List.getElem?_append, e1]
        by_cases h1 : a < off
        · rw [if_pos h1, if_neg (by omega), List.getElem?_take, if_pos h1]
        · rw [if_neg h1, List.getElem?_append, e2]
          by_cases h2 : a - off < n
          · rw [if_pos h2, if_pos (by omega), List.getElem?_take, if_pos h2]
          · rw [if_neg h2, if_neg (by omega), List.getElem?_drop]
            congr 1; omega
      have hfz : ∀ x' ∈ zs.take off ++ ys.take n ++ zs.drop (off + n), x'.fits 1 := fun x' hx' => by
        simp only [List.mem_append] at hx'
        rcases hx' with (h1 | h1) | h1
        · exact hs _ (List.mem_of_mem_take h1)
        · exact hfit1 _ (List.mem_of_mem_take h1)
        · exact hs _ (List.mem_of_mem_drop h1)
      have hcell2 : ∀ (a j : Nat) x' y', (zs.take off ++ ys.take n ++ zs.drop (off + n))[a]? = some x' → x'.cells[j]? = some y' →
          ∃ u, (splice cur (δ + off * 1) ((List.range n).map g))[δ + a * 1 + j]? = some u ∧ RepV w (okOf c w σ.hp loc) u y' := by
        intro a j x' y' hx' hy'
        have hj : j < 1 := by have := (List.getElem?_eq_some_iff.1 hy').1; rw [(hfz x' (List.mem_of_getElem? hx')).1] at this; exact this
        have hj0 : j = 0 := by omega
        subst hj0
        rw [hget] at hx'
        rw [splice_get hsp]
        by_cases ha : off ≤ a ∧ a < off + n
        · rw [if_pos ha] at hx'
          obtain ⟨z, h1, h2, h3⟩ := hval (a - off) (by omega)
          rw [h1] at hx'; cases hx'
          rw [hcell _ h3] at hy'
          simp at hy'; subst hy'
          refine ⟨g (a - off), ?_, h2⟩
          rw [if_pos (by simp; omega)]
          have : δ + a * 1 + 0 - (δ + off * 1) = a - off := by omega
          rw [this, List.getElem?_map, List.getElem?_range (by omega)]
          rfl
        · rw [if_neg ha] at hx'
          refine ⟨us a 0, ?_, hu2 a 0 x' y' hx' hy'⟩
          rw [if_neg (by simp; omega)]
          have := hc a 0 x' y' hx' hy'
          simpa using this
      refine .ar (b := b) (δ := δ) (fun a j => (splice cur (δ + off * 1) ((List.range n).map g))[δ + a * 1 + j]?.getD undef) hl (setRow_same hh) (by rw [splice_size hsp, hlen']; omega) hfz (fun a j x' y' hx' hy' => ?_) fun a j x' y' hx' hy' => ?_
      · obtain ⟨u, hu1, _⟩ := hcell2 a j x' y' hx' hy'
        rw [hu1]; rfl
      · obtain ⟨u, hu1, hr⟩ := hcell2 a j x' y' hx' hy'
        rw [hu1]
        exact hr.mono hk'

end
end Go.Fw

/- Maps of the frame's own, with keys that are integers or rows of integers: made, looked up, written. -/
namespace Go.Fw
open Go

/-- What a key is: an integer, or a row of them. -/
inductive KK where
  | one (k : IntKind)
  | row (ks : List IntKind)
def tKey (P : Program) (t : TypeId) : Option KK :=
  match P.underlying t with
  | some (.int k) => some (.one k)
  | some (.array _ _) => (tEqS P t).map .row
  | _ => none
/-- A map type: its keys' kind; its values are integers. -/
def tMapI (P : Program) (t : TypeId) : Option (KK × IntKind) :=
  match P.underlying t with
  | some (.map kt et) => match tKey P kt, (P.info? et).bind (·.zero) with
    | some kk, some (.int ik 0) => some (kk, ik)
    | _, _ => none
  | _ => none
def keyOk : KK → D → Prop
  | .one k, .int k' _ => k' = k
  | .row ks, .agg cs => aggOk ks cs
  | _, _ => False
def keyEq : D → D → Bool
  | .int _ a, .int _ b => a == b
  | .agg as, .agg bs => aggEq as bs
  | _, _ => false
def mhas (es : List (D × D)) (k : D) : Bool := es.any fun e => keyEq k e.1
def mget (ik : IntKind) (es : List (D × D)) (k : D) : D := ((es.find? fun e => keyEq k e.1).map Prod.snd).getD (.int ik 0)

section
variable {P : Program} {w : World} {ok : Nat → Prop}

theorem RepV.inv_int {v : Value} {k : IntKind} {n : Int} (h : RepV w ok v (.int k n)) : v = .int k n := by cases h; rfl
theorem RepV.inv_agg {v : Value} {cs : List D} (h : RepV w ok v (.agg cs)) : ∃ vs, v = .agg vs := by cases h with | agg _ _ => exact ⟨_, rfl⟩

/-- Two keys are compared. -/
theorem key_equal {kt : TypeId} {kk : KK} {a b : Value} {x y : D} (ht : tKey P kt = some kk) (hx : keyOk kk x) (hy : keyOk kk y) (ha : RepV w ok a x) (hb : RepV w ok b y) :
    (Op.equal kt a b).run P w = .ok (keyEq x y) w := by
  unfold tKey at ht
  split at ht
  · rename_i k hu
    simp only [Option.some.injEq] at ht; subst ht
    cases x <;> simp only [keyOk] at hx <;> try exact hx.elim
    cases y <;> simp only [keyOk] at hy <;> try exact hy.elim
    subst hx; subst hy
    rw [ha.inv_int, hb.inv_int]
    exact run_equalIn_int w 9999 kt _ _ _ _ hu
  · simp only [Option.map_eq_some_iff] at ht
    obtain ⟨ks, hks, rfl⟩ := ht
    cases x <;> simp only [keyOk] at hx <;> try exact hx.elim
    cases y <;> simp only [keyOk] at hy <;> try exact hy.elim
    obtain ⟨va, rfl⟩ := ha.inv_agg
    obtain ⟨vb, rfl⟩ := hb.inv_agg
    exact run_equal_aggs 9998 hks hx hy ha.agg_get hb.agg_get
  · cases ht

theorem aggOk_get : ∀ {ks : List IntKind} {cs : List D}, aggOk ks cs → cs.length = ks.length ∧ ∀ i, i < cs.length → ∃ k n, ks[i]? = some k ∧ cs[i]? = some (.int k n)
  | [], [], _ => ⟨rfl, fun i h => by simp at h⟩
  | k :: ks, .int k' n :: cs, h => by
    obtain ⟨rfl, h2⟩ := h
    obtain ⟨i1, i2⟩ := aggOk_get h2
    refine ⟨by simp [i1], fun i hi => ?_⟩
    cases i with
    | zero => exact ⟨k', n, rfl, rfl⟩
    | succ i => simpa using i2 i (by simpa using hi)

/-- A key can be one. -/
theorem key_check {kt : TypeId} {kk : KK} {a : Value} {x : D} (ht : tKey P kt = some kk) (hx : keyOk kk x) (ha : RepV w ok a x) (em : Bool) : (Instr.checkKey em 10000 kt a).run P w = .ok () w := by
  unfold tKey at ht
  split at ht
  · rename_i k hu
    simp only [Option.some.injEq] at ht; subst ht
    cases x <;> simp only [keyOk] at hx <;> try exact hx.elim
    subst hx
    rw [ha.inv_int, show (10000 : Nat) = 9999 + 1 from rfl]
    generalize (9999 : Nat) = m
    simp [Instr.checkKey, run_underlying hu]
  · rename_i n e hu
    simp only [Option.map_eq_some_iff] at ht
    obtain ⟨ks, hks, rfl⟩ := ht
    cases x <;> simp only [keyOk] at hx <;> try exact hx.elim
    rename_i cs
    obtain ⟨vs, rfl⟩ := ha.inv_agg
    unfold tEqS at hks
    rw [hu] at hks
    simp only at hks
    split at hks
    · rename_i hs
      simp only [Option.map_eq_some_iff] at hks
      obtain ⟨k, hk, rfl⟩ := hks
      have hue := tInt_und hk
      obtain ⟨i, hi⟩ := Option.isSome_iff_exists.1 hs.2.1
      have hsz : i.size = 1 := by have := hs.2.2; simpa [Program.cellsOf, hi] using this
      obtain ⟨l1, l2⟩ := aggOk_get hx
      rw [List.length_replicate] at l1
      have hget := ha.agg_get
      rw [show (10000 : Nat) = (9998 + 1) + 1 from rfl, Instr.checkKey]
      generalize (9998 : Nat) = dd
      simp only [Sem.run_bind, run_underlying hu, Result.andThen_ok]
      simp only [Std.Legacy.Range.forIn_eq_forIn_range', Std.Legacy.Range.size, Nat.sub_zero, Nat.add_one_sub_one, Nat.div_one]
      have each : ∀ j ∈ List.range' 0 n, ∃ m, vs[j]? = some (.int k m) := fun j hj => by
        have hj' : j < cs.length := by rw [l1]; simpa using hj
        obtain ⟨k', m, g1, g2⟩ := l2 j hj'
        rw [List.getElem?_replicate, if_pos (by omega)] at g1
        simp only [Option.some.injEq] at g1; subst g1
        exact ⟨m, hget j _ m g2⟩
      generalize List.range' 0 n = is at each
      induction is with
      | nil => simp
      | cons j is ih =>
        obtain ⟨m, hm⟩ := each j (by simp)
        have p1 := run_part_plain w (plain_int hue) (xs := vs) (off := j * i.size) (by rw [hsz, Nat.mul_one]; exact hm)
        have p2 : (Instr.checkKey em (dd + 1) e (.int k m)).run P w = .ok () w := by
          simp [Instr.checkKey, run_underlying hue]
        simp only [List.forIn_cons, Sem.run_bind, run_sizeOf' hi, Result.andThen_ok, p1, p2, Sem.run_pure]
        exact ih (fun y hy => each y (by simp [hy]))
    · cases hks
  · cases ht

/-- The entries that are in a map, and the data. -/
def EntsOk (w : World) (ok : Nat → Prop) (ents : List MapEntry) (es : List (D × D)) : Prop :=
  ents.length = es.length ∧ ∀ (i : Nat) e p, ents[i]? = some e → es[i]? = some p → RepV w ok e.key p.1 ∧ RepV w ok e.val p.2

theorem find_asking {kt : TypeId} {kk : KK} {a : Value} {x : D} (ht : tKey P kt = some kk) (hx : keyOk kk x) (ha : RepV w ok a x) : ∀ (ents : List MapEntry) (es : List (D × D)) (i0 : Nat), EntsOk w ok ents es → (∀ e ∈ es, keyOk kk e.1) →
    ∃ r, (Instr.findAsking kt a ents i0).run P w = .ok r w ∧ (match r with
      | some (_, v) => mhas es x = true ∧ ∃ p, es.find? (fun e => keyEq x e.1) = some p ∧ RepV w ok v p.2
      | none => mhas es x = false ∧ es.find? (fun e => keyEq x e.1) = none)
  | [], es, i0, hE, hk => by
    have : es = [] := List.length_eq_zero_iff.1 hE.1.symm
    subst this
    exact ⟨none, by simp [Instr.findAsking], by simp [mhas]⟩
  | e :: ents, [], i0, hE, hk => by have := hE.1; simp at this
  | e :: ents, p :: es, i0, hE, hk => by
    obtain ⟨h1, h2⟩ := hE.2 0 e p rfl rfl
    have heq := key_equal ht hx (hk p (by simp)) ha h1
    have hE' : EntsOk w ok ents es := ⟨by have := hE.1; simpa using this, fun i e' p' he hp => hE.2 (i + 1) e' p' (by simpa using he) (by simpa using hp)⟩
    cases hb : keyEq x p.1 with
    | true => exact ⟨some (i0, e.val), by simp [Instr.findAsking, heq, hb], by simp [mhas, hb]; exact h2⟩
    | false =>
      obtain ⟨r, hr, hm⟩ := find_asking ht hx ha ents es (i0 + 1) hE' fun e he => hk e (by simp [he])
      refine ⟨r, by simp [Instr.findAsking, heq, hb, hr], ?_⟩
      cases r with
      | none => simpa [mhas, hb] using hm
      | some q => simpa [mhas, hb] using hm

theorem find_now {k : IntKind} {n : Int} : ∀ (ents : List MapEntry) (es : List (D × D)) (i0 : Nat), EntsOk w ok ents es → (∀ e ∈ es, keyOk (.one k) e.1) →
    ∃ r, Instr.findNow (.int k) (.int k n) ents i0 = some r ∧ (match r with
      | some (_, v) => mhas es (.int k n) = true ∧ ∃ p, es.find? (fun e => keyEq (.int k n) e.1) = some p ∧ RepV w ok v p.2
      | none => mhas es (.int k n) = false ∧ es.find? (fun e => keyEq (.int k n) e.1) = none)
  | [], es, i0, hE, hk => by
    have : es = [] := List.length_eq_zero_iff.1 hE.1.symm
    subst this
    exact ⟨none, by simp [Instr.findNow], by simp [mhas]⟩
  | e :: ents, [], i0, hE, hk => by have := hE.1; simp at this
  | e :: ents, p :: es, i0, hE, hk => by
    obtain ⟨h1, h2⟩ := hE.2 0 e p rfl rfl
    have hE' : EntsOk w ok ents es := ⟨by have := hE.1; simpa using this, fun i e' p' he hp => hE.2 (i + 1) e' p' (by simpa using he) (by simpa using hp)⟩
    obtain ⟨p1, p2⟩ := p
    have hp1 := hk (p1, p2) (by simp)
    cases p1 <;> simp only [keyOk] at hp1 <;> try exact hp1.elim
    rename_i k' m
    subst hp1
    have hkey := h1.inv_int
    cases hb : (n == m) with
    | true => exact ⟨some (i0, e.val), by simp [Instr.findNow, hkey, Instr.sameNow, hb], by simp [mhas, keyEq, hb]; exact h2⟩
    | false =>
      obtain ⟨r, hr, hm⟩ := find_now (k := k') (n := n) ents es (i0 + 1) hE' fun e he => hk e (by simp [he])
      refine ⟨r, by simp [Instr.findNow, hkey, Instr.sameNow, hb, hr], ?_⟩
      cases r with
      | none => simpa [mhas, keyEq, hb] using hm
      | some q => simpa [mhas, keyEq, hb] using hm

/-- A key is looked for. -/
theorem find_key {kt : TypeId} {kk : KK} {a : Value} {x : D} (ht : tKey P kt = some kk) (hx : keyOk kk x) (ha : RepV w ok a x) (ents : List MapEntry) (es : List (D × D)) (hE : EntsOk w ok ents es) (hk : ∀ e ∈ es, keyOk kk e.1) :
    ∃ r, (Instr.findKey kt a ents).run P w = .ok r w ∧ (match r with
      | some (_, v) => mhas es x = true ∧ ∃ p, es.find? (fun e => keyEq x e.1) = some p ∧ RepV w ok v p.2
      | none => mhas es x = false ∧ es.find? (fun e => keyEq x e.1) = none) := by
  have ht0 := ht
  unfold tKey at ht
  split at ht
  · rename_i k hu
    simp only [Option.some.injEq] at ht; subst ht
    cases x <;> simp only [keyOk] at hx <;> try exact hx.elim
    subst hx
    rename_i k' n
    obtain ⟨r, hr, hm⟩ := find_now (n := n) ents es 0 hE hk
    refine ⟨r, ?_, hm⟩
    rw [ha.inv_int]
    exact Go.MapKept.run_findKey hu hr
  · rename_i n e hu
    obtain ⟨r, hr, hm⟩ := find_asking ht0 hx ha ents es 0 hE hk
    refine ⟨r, ?_, hm⟩
    rw [run_findKey_eq w (by rw [hu]) a ents]
    exact hr
  · cases ht
end

section
variable {P : Program} {c : Ctx} {σ : AS} {ρ : Nat → Value} {w : World} {vs : List Value} {xs : List AV} {loc : Nat → Option (Nat × Nat)}

theorem tMapI_und {t : TypeId} {kk : KK} {ik : IntKind} (h : tMapI P t = some (kk, ik)) : ∃ kt et, P.underlying t = some (.map kt et) ∧ tKey P kt = some kk ∧ (∀ w : World, (zeroValue et).run P w = .ok (.int ik 0) w) := by
  unfold tMapI at h
  split at h
  · rename_i kt et hu
    split at h
    · rename_i kk' ik' h1 h2
      simp only [Option.some.injEq, Prod.mk.injEq] at h
      obtain ⟨rfl, rfl⟩ := h
      refine ⟨kt, et, hu, h1, fun w => ?_⟩
      simp only [Option.bind_eq_some_iff] at h2
      obtain ⟨i, g1, g2⟩ := h2
      simp [zeroValue, typeInfo, g1, g2]
    · cases h
  · cases h

/-- A new map. -/
theorem RepL.makeMap (h : RepL P c σ ρ w vs xs loc) (k : Nat) (hf : σ.free k) (t : TypeId) :
    ∃ v w' loc', (Instr.makeMap t none).run P w = .ok v w' ∧ RepL P c (σ.new k (.mb [])) ρ w' vs xs loc' ∧ RepA P w' (okOf c w' (σ.new k (.mb [])).hp loc') loc' v (.mp k) := by
  refine ⟨.map (some w.heap.size), w.alloc (.map #[] 0), upd loc k (some (w.heap.size, 0)), ?_, ?_, .mp (by simp [upd])⟩
  · rfl
  · exact h.new k hf _ _ 0 (.mb (by simp [upd]) (heap_alloc_new w _) rfl fun i e p he => by simp at he)

/-- A key of the map. -/
theorem RepL.mapGet (h : RepL P c σ ρ w vs xs loc) {id : Nat} {es : List (D × D)} (hid : σ.hp.heap id = some (.mb es)) {t : TypeId} {kk : KK} {ik : IntKind} (ht : tMapI P t = some (kk, ik)) {vm vk : Value} {kd : D}
    (hm : RepA P w (okOf c w σ.hp loc) loc vm (.mp id)) (hk : RepA P w (okOf c w σ.hp loc) loc vk (.d kd)) (h1 : keyOk kk kd) (h2 : ∀ e ∈ es, keyOk kk e.1) (cok : Bool) :
    ∃ v, (Instr.lookup t vm vk cok).run P w = .ok v w ∧ RepA P w (okOf c w σ.hp loc) loc v (if cok then .tp [.d (mget ik es kd), .d (.bool (mhas es kd))] else .d (mget ik es kd)) := by
  obtain ⟨kt, et, hu, hkt, hz⟩ := tMapI_und ht
  cases hm with | @mp _ b hl =>
  cases h.heap id _ hid with | @mb b' clock ents _ hl' hb hsz hE =>
  rw [hl] at hl'; simp only [Option.some.injEq, Prod.mk.injEq, and_true] at hl'; subst hl'
  cases hk with | d hk =>
  have hEnt : EntsOk w (okOf c w σ.hp loc) ents.toList es := ⟨by simpa using hsz, fun i e p he hp => hE i e p (by simpa using he) hp⟩
  obtain ⟨r, hr, hm⟩ := find_key hkt h1 hk ents.toList es hEnt h2
  have hck := key_check (P := P) (w := w) hkt h1 hk ents.isEmpty
  have hget : (getObj b).run P w = .ok (.map ents clock) w := Go.MapKept.run_getObj_map hb
  cases r with
  | none =>
    obtain ⟨m1, m2⟩ := hm
    refine ⟨if cok then .tuple #[.int ik 0, .bool false] else .int ik 0, ?_, ?_⟩
    · simp only [Instr.lookup, Sem.run_bind, run_underlying hu, Result.andThen_ok, hget, Sem.run_pure, hck, hr, hz w]
    · have e1 : mget ik es kd = .int ik 0 := by simp [mget, m2]
      rw [e1, m1]
      cases cok with
      | false => exact .int _ _
      | true =>
        refine .tp rfl fun i v y hv hy => ?_
        match i with
        | 0 => simp at hv hy; subst hv; subst hy; exact .int _ _
        | 1 => simp at hv hy; subst hv; subst hy; exact .bool _
        | i + 2 => simp at hy
  | some q =>
    obtain ⟨i, u⟩ := q
    obtain ⟨m1, p, m2, m3⟩ := hm
    refine ⟨if cok then .tuple #[u, .bool true] else u, ?_, ?_⟩
    · simp only [Instr.lookup, Sem.run_bind, run_underlying hu, Result.andThen_ok, hget, Sem.run_pure, hck, hr]
    · have e1 : mget ik es kd = p.2 := by simp [mget, m2]
      rw [e1, m1]
      cases cok with
      | false => exact .d m3
      | true =>
        refine .tp rfl fun i v y hv hy => ?_
        match i with
        | 0 => simp at hv hy; subst hv; subst hy; exact .d m3
        | 1 => simp at hv hy; subst hv; subst hy; exact .bool _
        | i + 2 => simp at hy

/-- A further key. -/
theorem RepL.mapPut (h : RepL P c σ ρ w vs xs loc) {id : Nat} {es : List (D × D)} (hid : σ.hp.heap id = some (.mb es)) {t : TypeId} {kk : KK} {ik : IntKind} (ht : tMapI P t = some (kk, ik)) {vm vk vx : Value} {kd xd : D}
    (hm : RepA P w (okOf c w σ.hp loc) loc vm (.mp id)) (hk : RepA P w (okOf c w σ.hp loc) loc vk (.d kd)) (hx : RepA P w (okOf c w σ.hp loc) loc vx (.d xd)) (h1 : keyOk kk kd) (h2 : ∀ e ∈ es, keyOk kk e.1) (h3 : mhas es kd = false) :
    ∃ w', (Instr.mapUpdate t vm vk vx).run P w = .ok () w' ∧ RepL P c { σ with hp := σ.hp.set id (.mb (es ++ [(kd, xd)])) } ρ w' vs xs loc := by
  obtain ⟨kt, et, hu, hkt, hz⟩ := tMapI_und ht
  cases hm with | @mp _ b hl =>
  cases h.heap id _ hid with | @mb b' clock ents _ hl' hb hsz hE =>
  have hlb := hl
  rw [hl] at hl'; simp only [Option.some.injEq, Prod.mk.injEq, and_true] at hl'; subst hl'
  cases hk with | d hk =>
  cases hx with | d hx =>
  have hEnt : EntsOk w (okOf c w σ.hp loc) ents.toList es := ⟨by simpa using hsz, fun i e p he hp => hE i e p (by simpa using he) hp⟩
  obtain ⟨r, hr, hm⟩ := find_key hkt h1 hk ents.toList es hEnt h2
  have hck := key_check (P := P) (w := w) hkt h1 hk false
  have hget : (getObj b).run P w = .ok (.map ents clock) w := Go.MapKept.run_getObj_map hb
  cases r with
  | some q =>
    obtain ⟨i, u⟩ := q
    obtain ⟨m1, _⟩ := hm
    rw [h3] at m1; cases m1
  | none =>
    have hset := Go.MapKept.run_setObj_map (P := P) (.map (ents.push { key := vk, val := vx, born := clock }) (clock + 1)) hb
    obtain ⟨s1, s2⟩ := Go.MapKept.heap_set (o' := .map (ents.push { key := vk, val := vx, born := clock }) (clock + 1)) hb
    refine ⟨{ w with heap := w.heap.setIfInBounds b (.map (ents.push { key := vk, val := vx, born := clock }) (clock + 1)) }, by simp only [Instr.mapUpdate, Sem.run_bind, run_underlying hu, Result.andThen_ok, hget, hck, hr, hset], ?_⟩
    have hlive : Live σ.hp id := by simp [Live, hid]
    refine h.write id b 0 _ hlive hlb (fun n cc T fz hn => ?_) ⟨rfl, rfl, rfl⟩ (by simp) (fun n hn => s2 n hn) fun hkk => ?_
    · have hne : n ≠ b := fun e => by rw [e, hb] at hn; cases hn
      exact ⟨cc, T, fz, (s2 n hne).trans hn, rfl⟩
    · refine .mb hlb s1 (by simp [hsz]) fun i e p he hp => ?_
      rcases Nat.lt_or_ge i ents.size with hi | hi
      · rw [Array.getElem?_push_lt hi] at he
        rw [List.getElem?_append_left (by omega)] at hp
        have := hE i e p (by rw [Array.getElem?_eq_getElem hi]; exact he) hp
        exact ⟨this.1.mono hkk, this.2.mono hkk⟩
      · rw [List.getElem?_append_right (by omega)] at hp
        have hi2 : i = ents.size := by
          have := (Array.getElem?_eq_some_iff.1 he).1
          simp at this; omega
        subst hi2
        rw [Array.getElem?_push_size] at he
        simp only [Option.some.injEq] at he; subst he
        rw [hsz, Nat.sub_self] at hp
        simp at hp; subst hp
        exact ⟨hk.mono hkk, hx.mono hkk⟩
end
end Go.Fw

/- Contracts of functions, and what a call of one does to the caller's state. -/
namespace Go.Fw
open Go

mutual
def AV.ren (g : Nat → Nat) : AV → AV
  | .ptr id off => .ptr (g id) off
  | .sl sz id off len => .sl sz (g id) off len
  | .ep sz id i off => .ep sz (g id) i off
  | .mp id => .mp (g id)
  | .dp cs => .dp (AV.renL g cs)
  | .ag cs => .ag (AV.renL g cs)
  | .tp cs => .tp (AV.renL g cs)
  | .fv fn a b => .fv fn (AV.renL g a) (AV.renL g b)
  | .op b x => .op b (x.ren g)
  | .d x => .d x
  | .nl => .nl
  | .unk => .unk
  | .clo S => .clo S
def AV.renL (g : Nat → Nat) : List AV → List AV
  | [] => []
  | x :: r => x.ren g :: AV.renL g r
end

mutual
/-- All numbers that 'p' names are struck. -/
def AV.kp (p : Nat → Bool) : AV → AV
  | .ptr id off => if p id = true then .unk else .ptr id off
  | .sl sz id off len => if p id = true then .unk else .sl sz id off len
  | .ep sz id i off => if p id = true then .unk else .ep sz id i off
  | .mp id => if p id = true then .unk else .mp id
  | .dp cs => .dp (AV.kpL p cs)
  | .ag cs => .ag (AV.kpL p cs)
  | .tp cs => .tp (AV.kpL p cs)
  | .fv fn a b => .fv fn (AV.kpL p a) (AV.kpL p b)
  | .op b x => .op b (x.kp p)
  | .d x => .d x
  | .nl => .nl
  | .unk => .unk
  | .clo S => .clo S
def AV.kpL (p : Nat → Bool) : List AV → List AV
  | [] => []
  | x :: r => x.kp p :: AV.kpL p r
end

theorem AV.renL_eq (g : Nat → Nat) : ∀ l, AV.renL g l = l.map (AV.ren g)
  | [] => rfl
  | x :: r => by simp [AV.renL, AV.renL_eq g r]
theorem AV.kpL_eq (p : Nat → Bool) : ∀ l, AV.kpL p l = l.map (AV.kp p)
  | [] => rfl
  | x :: r => by simp [AV.kpL, AV.kpL_eq p r]

def Blk.ren (g : Nat → Nat) : Blk → Blk
  | .bx cs => .bx (AV.renL g cs)
  | b => b
def Blk.kp (p : Nat → Bool) : Blk → Blk
  | .bx cs => .bx (AV.kpL p cs)
  | b => b

def AV.flat1 : AV → Bool
  | .d y => y.flat
  | .nl | .ptr _ _ | .sl _ _ _ _ | .ep _ _ _ _ | .mp _ | .unk => true
  | _ => false
def AV.flat2 : AV → Bool
  | .ag cs => cs.all AV.flat1
  | x => x.flat1
def AV.flatR : AV → Bool
  | .tp cs => cs.all AV.flat2
  | x => x.flat2
def Blk.flatR : Blk → Bool
  | .bx cs => cs.all AV.flat1
  | .ar _ xs => xs.all D.flat
  | .mb es => es.all fun p => p.1.flat && p.2.flat

section
variable {P : Program} {w w' : World} {ok ok' : Nat → Prop} {loc loc' : Nat → Option (Nat × Nat)}

theorem RepA.ren {v : Value} {x : AV} (h : RepA P w ok loc v x) (g : Nat → Nat) (hg : ∀ id q, loc id = some q → loc' (g id) = some q) : RepA P w ok loc' v (x.ren g) := by
  induction h with
  | unk v => exact .unk v
  | d h => exact .d h
  | nl => exact .nl
  | ptr h => exact .ptr (hg _ _ h)
  | sl0 base sz id off => exact .sl0 _ _ _ _
  | sl h hh hcap hlen hm => exact .sl (hg _ _ h) hh hcap hlen hm
  | ep h => exact .ep (hg _ _ h)
  | dp u ho hh hc _ ih =>
    simp only [AV.ren, AV.renL_eq]
    refine .dp u ho hh (fun j y hy => ?_) (fun j y hy => ?_)
    · simp only [List.getElem?_map, Option.map_eq_some_iff] at hy; obtain ⟨y', hy', rfl⟩ := hy; exact hc j y' hy'
    · simp only [List.getElem?_map, Option.map_eq_some_iff] at hy; obtain ⟨y', hy', rfl⟩ := hy; exact ih j y' hy'
  | ag hs' _ ih =>
    simp only [AV.ren, AV.renL_eq]
    refine .ag (by simpa using hs') (fun i v y hv hy => ?_)
    simp only [List.getElem?_map, Option.map_eq_some_iff] at hy; obtain ⟨y', hy', rfl⟩ := hy; exact ih i v y' hv hy'
  | tp hs' _ ih =>
    simp only [AV.ren, AV.renL_eq]
    refine .tp (by simpa using hs') (fun i v y hv hy => ?_)
    simp only [List.getElem?_map, Option.map_eq_some_iff] at hy; obtain ⟨y', hy', rfl⟩ := hy; exact ih i v y' hv hy'
  | fv h1 h2 _ _ ih1 ih2 =>
    simp only [AV.ren, AV.renL_eq]
    refine .fv (by simpa using h1) (by simpa using h2) (fun i v y hv hy => ?_) (fun i v y hv hy => ?_)
    · simp only [List.getElem?_map, Option.map_eq_some_iff] at hy; obtain ⟨y', hy', rfl⟩ := hy; exact ih1 i v y' hv hy'
    · simp only [List.getElem?_map, Option.map_eq_some_iff] at hy; obtain ⟨y', hy', rfl⟩ := hy; exact ih2 i v y' hv hy'
  | clo h => exact .clo h
  | mp h => exact .mp (hg _ _ h)
  | op _ h0 ih => exact .op ih h0

/-- Back from renamed numbers. -/
theorem RepA.unren {v : Value} {y : AV} (h : RepA P w ok loc v y) (g : Nat → Nat) : ∀ x : AV, y = x.ren g → RepA P w ok (fun q => loc (g q)) v x := by
  induction h with
  | unk v => intro x hx; cases x <;> simp [AV.ren] at hx; exact .unk v
  | d h => intro x hx; cases x <;> simp [AV.ren] at hx; subst hx; exact .d h
  | nl => intro x hx; cases x <;> simp [AV.ren] at hx; exact .nl
  | ptr h => intro x hx; cases x <;> simp [AV.ren] at hx; obtain ⟨rfl, rfl⟩ := hx; exact .ptr h
  | sl0 base sz id off => intro x hx; cases x <;> simp [AV.ren] at hx; obtain ⟨rfl, rfl, rfl, rfl⟩ := hx; exact .sl0 _ _ _ _
  | sl h hh hcap hlen hm => intro x hx; cases x <;> simp [AV.ren] at hx; obtain ⟨rfl, rfl, rfl, rfl⟩ := hx; exact .sl h hh hcap hlen hm
  | ep h => intro x hx; cases x <;> simp [AV.ren] at hx; obtain ⟨rfl, rfl, rfl, rfl⟩ := hx; exact .ep h
  | dp u ho hh hc _ ih =>
    intro x hx; cases x <;> simp [AV.ren, AV.renL_eq] at hx; subst hx
    exact .dp u ho hh (fun j y hy => hc j (y.ren g) (by simp [hy])) (fun j y hy => ih j (y.ren g) (by simp [hy]) y rfl)
  | ag hs' _ ih =>
    intro x hx; cases x <;> simp [AV.ren, AV.renL_eq] at hx; subst hx
    exact .ag (by simpa using hs') (fun i v y hv hy => ih i v (y.ren g) hv (by simp [hy]) y rfl)
  | tp hs' _ ih =>
    intro x hx; cases x <;> simp [AV.ren, AV.renL_eq] at hx; subst hx
    exact .tp (by simpa using hs') (fun i v y hv hy => ih i v (y.ren g) hv (by simp [hy]) y rfl)
  | fv h1 h2 _ _ ih1 ih2 =>
    intro x hx; cases x <;> simp [AV.ren, AV.renL_eq] at hx; obtain ⟨rfl, rfl, rfl⟩ := hx
    exact .fv (by simpa using h1) (by simpa using h2) (fun i v y hv hy => ih1 i v (y.ren g) hv (by simp [hy]) y rfl) (fun i v y hv hy => ih2 i v (y.ren g) hv (by simp [hy]) y rfl)
  | clo h => intro x hx; cases x <;> simp [AV.ren] at hx; subst hx; exact .clo h
  | mp h => intro x hx; cases x <;> simp [AV.ren] at hx; subst hx; exact .mp h
  | op _ h0 ih => intro x hx; cases x <;> simp [AV.ren] at hx; obtain ⟨rfl, rfl⟩ := hx; exact .op (fun hb => ih hb _ rfl) h0

theorem RepA.mono_kp {v : Value} {x : AV} (h : RepA P w ok loc v x) (hk : ∀ b, ok b → ok' b ∧ w'.heap[b]? = w.heap[b]?) (hs : Shapes w w')
    (p : Nat → Bool) (hl : ∀ id, p id = false → loc' id = loc id) : RepA P w' ok' loc' v (x.kp p) := by
  have hne : ∀ id, ¬ p id = true → p id = false := fun id h => by simpa using h
  induction h with
  | unk v => exact .unk v
  | d h => exact .d (h.mono hk)
  | nl => exact .nl
  | ptr h =>
    simp only [AV.kp]; split
    · exact .unk _
    · rename_i hp; exact .ptr ((hl _ (hne _ hp)).trans h)
  | sl0 base sz id off =>
    simp only [AV.kp]; split
    · exact .unk _
    · exact .sl0 _ _ _ _
  | sl h hh hcap hlen hm =>
    simp only [AV.kp]; split
    · exact .unk _
    · rename_i hp
      obtain ⟨c', T', fz', hc', he⟩ := hs _ _ _ _ hh
      exact .sl ((hl _ (hne _ hp)).trans h) hc' (by rw [he]; exact hcap) hlen hm
  | ep h =>
    simp only [AV.kp]; split
    · exact .unk _
    · rename_i hp; exact .ep ((hl _ (hne _ hp)).trans h)
  | dp u ho hh hc _ ih =>
    simp only [AV.kp, AV.kpL_eq]
    refine .dp u (hk _ ho).1 ((hk _ ho).2.trans hh) (fun j y hy => ?_) (fun j y hy => ?_)
    · simp only [List.getElem?_map, Option.map_eq_some_iff] at hy; obtain ⟨y', hy', rfl⟩ := hy; exact hc j y' hy'
    · simp only [List.getElem?_map, Option.map_eq_some_iff] at hy; obtain ⟨y', hy', rfl⟩ := hy; exact ih j y' hy'
  | ag hs' _ ih =>
    simp only [AV.kp, AV.kpL_eq]
    refine .ag (by simpa using hs') (fun i v y hv hy => ?_)
    simp only [List.getElem?_map, Option.map_eq_some_iff] at hy; obtain ⟨y', hy', rfl⟩ := hy; exact ih i v y' hv hy'
  | tp hs' _ ih =>
    simp only [AV.kp, AV.kpL_eq]
    refine .tp (by simpa using hs') (fun i v y hv hy => ?_)
    simp only [List.getElem?_map, Option.map_eq_some_iff] at hy; obtain ⟨y', hy', rfl⟩ := hy; exact ih i v y' hv hy'
  | fv h1 h2 _ _ ih1 ih2 =>
    simp only [AV.kp, AV.kpL_eq]
    refine .fv (by simpa using h1) (by simpa using h2) (fun i v y hv hy => ?_) (fun i v y hv hy => ?_)
    · simp only [List.getElem?_map, Option.map_eq_some_iff] at hy; obtain ⟨y', hy', rfl⟩ := hy; exact ih1 i v y' hv hy'
    · simp only [List.getElem?_map, Option.map_eq_some_iff] at hy; obtain ⟨y', hy', rfl⟩ := hy; exact ih2 i v y' hv hy'
  | clo h => exact .clo (h.mono hk)
  | mp h =>
    simp only [AV.kp]; split
    · exact .unk _
    · rename_i hp; exact .mp ((hl _ (hne _ hp)).trans h)
  | op _ h0 ih => exact .op ih h0

theorem RepA.flat1 {v : Value} {x : AV} (h : RepA P w ok loc v x) (hf : x.flat1 = true) : RepA P w ok' loc v x := by
  cases h with
  | unk v => exact .unk v
  | d h => exact .d (h.of_flat hf)
  | nl => exact .nl
  | ptr h => exact .ptr h
  | sl0 base sz id off => exact .sl0 _ _ _ _
  | sl h hh hcap hlen hm => exact .sl h hh hcap hlen hm
  | ep h => exact .ep h
  | mp h => exact .mp h
  | _ => simp [AV.flat1] at hf

theorem RepA.flat2 {v : Value} {x : AV} (h : RepA P w ok loc v x) (hf : x.flat2 = true) : RepA P w ok' loc v x := by
  by_cases hx : ∃ cs, x = .ag cs
  · obtain ⟨cs, rfl⟩ := hx
    cases h with | ag h1 h2 =>
    exact .ag h1 fun i v y hv hy => (h2 i v y hv hy).flat1 (List.all_eq_true.1 (by simpa [AV.flat2] using hf) y (List.mem_of_getElem? hy))
  · refine h.flat1 ?_
    cases x <;> first | exact hf | (exact absurd ⟨_, rfl⟩ hx)

theorem RepA.flatR {v : Value} {x : AV} (h : RepA P w ok loc v x) (hf : x.flatR = true) : RepA P w ok' loc v x := by
  by_cases hx : ∃ cs, x = .tp cs
  · obtain ⟨cs, rfl⟩ := hx
    cases h with | tp h1 h2 =>
    exact .tp h1 fun i v y hv hy => (h2 i v y hv hy).flat2 (List.all_eq_true.1 (by simpa [AV.flatR] using hf) y (List.mem_of_getElem? hy))
  · refine h.flat2 ?_
    cases x <;> first | exact hf | (exact absurd ⟨_, rfl⟩ hx)

theorem RepB.flatR {id : Nat} {blk : Blk} (h : RepB P w ok loc id blk) (hf : blk.flatR = true) : RepB P w ok' loc id blk := by
  cases h with
  | bx h1 h2 h3 h4 => exact .bx h1 h2 h3 fun i v y hv hy => (h4 i v y hv hy).flat1 (List.all_eq_true.1 hf y (List.mem_of_getElem? hy))
  | ar0 sz h => exact .ar0 sz h
  | ar us h1 h2 h3 h4 h5 h6 =>
    refine .ar us h1 h2 h3 h4 h5 fun i j x y hx hy => ?_
    have hfx : x.flat = true := List.all_eq_true.1 hf x (List.mem_of_getElem? hx)
    refine (h6 i j x y hx hy).of_one ?_
    cases x with
    | agg cs => exact List.all_eq_true.1 hfx y (List.mem_of_getElem? hy)
    | list zs => simp [D.flat, D.one] at hfx
    | int k n => simp only [D.cells] at hy; cases j <;> simp at hy; subst hy; rfl
    | bool b => simp only [D.cells] at hy; cases j <;> simp at hy; subst hy; rfl
    | str s => simp only [D.cells] at hy; cases j <;> simp at hy; subst hy; rfl
  | mb h1 h2 h3 h4 =>
    refine .mb h1 h2 h3 fun i e p he hp => ?_
    have := List.all_eq_true.1 hf p (List.mem_of_getElem? hp)
    simp only [Bool.and_eq_true] at this
    exact ⟨(h4 i e p he hp).1.of_flat this.1, (h4 i e p he hp).2.of_flat this.2⟩

theorem RepB.ren {id : Nat} {blk : Blk} (h : RepB P w ok loc id blk) (g : Nat → Nat) (hg : ∀ id q, loc id = some q → loc' (g id) = some q) (h0 : loc id = none → loc' (g id) = none) : RepB P w ok loc' (g id) (blk.ren g) := by
  cases h with
  | bx h1 h2 h3 h4 =>
    simp only [Blk.ren, AV.renL_eq]
    refine .bx (hg _ _ h1) h2 (by simpa using h3) fun i v y hv hy => ?_
    simp only [List.getElem?_map, Option.map_eq_some_iff] at hy; obtain ⟨y', hy', rfl⟩ := hy
    exact (h4 i v y' hv hy').ren g hg
  | ar0 sz h => exact .ar0 sz (h0 h)
  | ar us h1 h2 h3 h4 h5 h6 => exact .ar us (hg _ _ h1) h2 h3 h4 h5 h6
  | mb h1 h2 h3 h4 => exact .mb (hg _ _ h1) h2 h3 h4

theorem RepB.unren {id : Nat} {blk : Blk} (g : Nat → Nat) (h : RepB P w ok loc (g id) (blk.ren g)) : RepB P w ok (fun q => loc (g q)) id blk := by
  cases blk with
  | bx cs =>
    simp only [Blk.ren, AV.renL_eq] at h
    cases h with | bx h1 h2 h3 h4 => exact .bx h1 h2 (by simpa using h3) fun i v y hv hy => (h4 i v (y.ren g) hv (by simp [hy])).unren g y rfl
  | ar sz xs =>
    cases h with
    | ar0 _ h => exact .ar0 sz h
    | ar us h1 h2 h3 h4 h5 h6 => exact .ar us h1 h2 h3 h4 h5 h6
  | mb es => cases h with | mb h1 h2 h3 h4 => exact .mb h1 h2 h3 h4

theorem RepB.mono_kp {id : Nat} {blk : Blk} (h : RepB P w ok loc id blk) (hk : ∀ b, ok b → ok' b ∧ w'.heap[b]? = w.heap[b]?) (hs : Shapes w w')
    (p : Nat → Bool) (hid : p id = false) (hl : ∀ id, p id = false → loc' id = loc id) (hb : ∀ b δ, loc id = some (b, δ) → w'.heap[b]? = w.heap[b]?) : RepB P w' ok' loc' id (blk.kp p) := by
  cases h with
  | bx h1 h2 h3 h4 =>
    simp only [Blk.kp, AV.kpL_eq]
    refine .bx ((hl _ hid).trans h1) ((hb _ _ h1).trans h2) (by simpa using h3) fun i v y hv hy => ?_
    simp only [List.getElem?_map, Option.map_eq_some_iff] at hy; obtain ⟨y', hy', rfl⟩ := hy
    exact (h4 i v y' hv hy').mono_kp hk hs p hl
  | ar0 sz h => exact .ar0 sz ((hl _ hid).trans h)
  | ar us h1 h2 h3 h4 h5 h6 => exact .ar us ((hl _ hid).trans h1) ((hb _ _ h1).trans h2) h3 h4 h5 fun i j x y hx hy => (h6 i j x y hx hy).mono hk
  | mb h1 h2 h3 h4 => exact .mb ((hl _ hid).trans h1) ((hb _ _ h1).trans h2) h3 fun i e p he hp => ⟨(h4 i e p he hp).1.mono hk, (h4 i e p he hp).2.mono hk⟩
end

theorem RepB.mono_ext {P : Program} {w w' : World} {ok ok' : Nat → Prop} {loc loc' : Nat → Option (Nat × Nat)} {id : Nat} {blk : Blk} (h : RepB P w ok loc id blk) (hk : ∀ b, ok b → ok' b ∧ w'.heap[b]? = w.heap[b]?) (hs : Shapes w w')
    (hl : ∀ id q, loc id = some q → loc' id = some q) (hself : loc' id = loc id) (hb : ∀ b δ, loc id = some (b, δ) → w'.heap[b]? = w.heap[b]?) : RepB P w' ok' loc' id blk := by
  cases h with
  | bx h1 h2 h3 h4 => exact .bx (hself.trans h1) ((hb _ _ h1).trans h2) h3 fun i v y hv hy => (h4 i v y hv hy).mono_ext hk hs hl
  | ar0 sz h => exact .ar0 sz (hself.trans h)
  | ar us h1 h2 h3 h4 h5 h6 => exact .ar us (hself.trans h1) ((hb _ _ h1).trans h2) h3 h4 h5 fun i j x y hx hy => (h6 i j x y hx hy).mono hk
  | mb h1 h2 h3 h4 => exact .mb (hself.trans h1) ((hb _ _ h1).trans h2) h3 fun i e p he hp => ⟨(h4 i e p he hp).1.mono hk, (h4 i e p he hp).2.mono hk⟩

def lookH (h : List (Nat × Blk)) (id : Nat) : Option Blk :=
  match h with
  | [] => none
  | (k, b) :: r => if id = k then some b else lookH r id

def hpOf (h : List (Nat × Blk)) : HP := ⟨lookH h, fun _ => false⟩
def st (h : List (Nat × Blk)) : AS := ⟨fun _ => .unk, hpOf h, fun id => decide ((id < 100 ∨ 1000000000000 ≤ id)) || (lookH h id).isSome⟩

/-- The contract of function 'f': called with such arguments, the blocks 'hs' being handed over to be written, it returns; its result, what these blocks hold then, and the new blocks meet 'K'. -/
def ACalls (P : Program) (f : FuncId) (args : List AV) (hs : List (Nat × Blk)) (K : AV → List Blk → List (Nat × Blk) → Prop) : Prop :=
  ∀ (c : Ctx) (vals : List Value), RepL P c (st hs) (fun _ => undef) c.w0 vals args c.floc →
    Calls P f vals.toArray c.w0 fun e w' => ∃ v x bs res loc', e = .returned v ∧ K x bs res ∧ bs.length = hs.length ∧ (∀ p ∈ res, (100 ≤ p.1 ∧ p.1 < 1000000000000)) ∧
      RepL P c (st ((hs.map Prod.fst).zip bs ++ res)) (fun _ => undef) w' [v] [x] loc'

theorem ACalls.mono {P : Program} {f : FuncId} {args : List AV} {hs : List (Nat × Blk)} {K K' : AV → List Blk → List (Nat × Blk) → Prop} (h : ACalls P f args hs K)
    (hk : ∀ x bs res, K x bs res → K' x bs res) : ACalls P f args hs K' := fun c vals hr =>
  (h c vals hr).mono fun _ _ ⟨v, x, bs, res, l, h1, h2, h3⟩ => ⟨v, x, bs, res, l, h1, hk _ _ _ h2, h3⟩

end Go.Fw

/- A call by contract: the caller's state afterwards. -/
namespace Go.Fw
open Go

/-- Is this one of the 'n' numbers from 'base' on? -/
def inNew (base n id : Nat) : Bool := decide (base ≤ id ∧ id < base + n)
def posOf (id : Nat) : List (Nat × Blk) → Nat
  | [] => 0
  | (k, _) :: r => if id = k then 0 else posOf id r + 1
/-- Where the callee's numbers come to lie in the caller's state. -/
def renOf (g : Nat → Nat) (base : Nat) (res : List (Nat × Blk)) (id : Nat) : Nat := if (id < 100 ∨ 1000000000000 ≤ id) then g id else base + posOf id res

def setL (hp : HP) (E : List (Nat × Blk)) : HP := { hp with heap := fun id => match lookH E id with | some b => some b | none => hp.heap id }

/-- Numbers that are neither handed over nor new: struck in what comes back. -/
def outE (keys : List Nat) (res : List (Nat × Blk)) (id : Nat) : Bool := !(keys.contains id || (res.map Prod.fst).contains id)

def resE (g : Nat → Nat) (base : Nat) (keys : List Nat) (bs : List Blk) (res : List (Nat × Blk)) : List (Nat × Blk) :=
  ((keys.zip bs ++ res).map fun p => (renOf g base res p.1, (p.2.kp (outE keys res)).ren (renOf g base res)))

/-- What comes back, in the caller's numbers. -/
def AV.back (x : AV) (g : Nat → Nat) (base : Nat) (keys : List Nat) (res : List (Nat × Blk)) : AV := (x.kp (outE keys res)).ren (renOf g base res)

/-- The caller's state behind a call. -/
def AS.after (σ : AS) (g : Nat → Nat) (base : Nat) (dr : Bool) (view keys : List Nat) (bs : List Blk) (res : List (Nat × Blk)) : AS :=
  { sl := σ.sl, hp := setL (if dr then σ.hp.dropL view else σ.hp) (resE g base keys bs res), used := fun id => inNew base res.length id || σ.used id }

theorem lookH_some {E : List (Nat × Blk)} {id : Nat} {b : Blk} (h : lookH E id = some b) : (id, b) ∈ E := by
  induction E with
  | nil => cases h
  | cons p r ih =>
    obtain ⟨k, b'⟩ := p
    simp only [lookH] at h
    split at h
    · rename_i he; subst he; simp only [Option.some.injEq] at h; subst h; simp
    · exact List.mem_cons_of_mem _ (ih h)

theorem lookH_mem {E : List (Nat × Blk)} {id : Nat} {b : Blk} (h : (id, b) ∈ E) (hn : (E.map Prod.fst).Nodup) : lookH E id = some b := by
  induction E with
  | nil => simp at h
  | cons p r ih =>
    obtain ⟨k, b'⟩ := p
    simp only [List.map_cons, List.nodup_cons] at hn
    simp only [lookH]
    rcases List.mem_cons.1 h with h1 | h1
    · simp only [Prod.mk.injEq] at h1; obtain ⟨rfl, rfl⟩ := h1; simp
    · have : id ≠ k := fun he => hn.1 (he ▸ List.mem_map_of_mem (f := Prod.fst) h1)
      rw [if_neg this]; exact ih h1 hn.2

theorem lookH_none {E : List (Nat × Blk)} {id : Nat} (h : lookH E id = none) : ∀ b, (id, b) ∉ E := by
  intro b hb
  induction E with
  | nil => simp at hb
  | cons p r ih =>
    obtain ⟨k, b'⟩ := p
    simp only [lookH] at h
    split at h
    · cases h
    · rename_i hne
      rcases List.mem_cons.1 hb with h1 | h1
      · simp only [Prod.mk.injEq] at h1; exact hne h1.1
      · exact ih h h1

theorem posOf_lt {id : Nat} {res : List (Nat × Blk)} (h : ∃ b, (id, b) ∈ res) : posOf id res < res.length ∧ ∃ b, res[posOf id res]? = some (id, b) := by
  induction res with
  | nil => obtain ⟨b, hb⟩ := h; simp at hb
  | cons p r ih =>
    obtain ⟨k, b'⟩ := p
    obtain ⟨b, hb⟩ := h
    simp only [posOf]
    by_cases he : id = k
    · subst he; rw [if_pos rfl]; exact ⟨by simp, b', rfl⟩
    · rw [if_neg he]
      have : (id, b) ∈ r := by
        rcases List.mem_cons.1 hb with h1 | h1
        · simp only [Prod.mk.injEq] at h1; exact absurd h1.1 he
        · exact h1
      obtain ⟨g1, b2, g2⟩ := ih ⟨b, this⟩
      exact ⟨by simp; omega, b2, by simpa using g2⟩

section
variable {P : Program} {c : Ctx} {σ : AS} {ρ : Nat → Value} {w w' : World} {loc : Nat → Option (Nat × Nat)}

theorem RepL.call {f : FuncId} {vals : List Value} {as args : List AV} {hs : List (Nat × Blk)} {K : AV → List Blk → List (Nat × Blk) → Prop} (h : RepL P c σ ρ w vals as loc)
    (view : List Nat) (g : Nat → Nat) (base : Nat) (h100 : (100 ≤ base ∧ base < 1000000000000))
    (hfit : args.length = as.length)
    (hconv : ∀ (i : Nat) a b v, args[i]? = some a → as[i]? = some b → RepA P w (okOf c w σ.hp loc) loc v b → RepA P w (okOf c w (σ.hp.dropL view) loc) (fun q => loc (g q)) v a)
    (hg0 : ∀ q, q ∉ hs.map Prod.fst → g q = 0)
    (hhs : ∀ q blk, (q, blk) ∈ hs → (0 < q ∧ (q < 100 ∨ 1000000000000 ≤ q)) ∧ g q ∉ view ∧ σ.hp.heap (g q) = some (blk.ren g))
    (hnd : (hs.map Prod.fst).Nodup)
    (hginj : ∀ q q', q ∈ hs.map Prod.fst → q' ∈ hs.map Prod.fst → g q = g q' → q = q')
    (hcall : ACalls P f args hs K) :
    Calls P f vals.toArray w fun e w' => ∃ v x bs res, e = .returned v ∧ K x bs res ∧ bs.length = hs.length ∧
      (((res.map Prod.fst).Nodup ∧ (∀ j, j < res.length → (σ.used (base + j) = false ∧ base + j < 1000000000000))) → ∀ dr : Bool,
        (dr = true ∨ view = [] ∨ (x.flatR = true ∧ (bs.all Blk.flatR = true) ∧ res.all (fun p => p.2.flatR) = true)) →
        ∃ loc', RepL P c (σ.after g base dr view (hs.map Prod.fst) bs res) ρ w' [v] [x.back g base (hs.map Prod.fst) res] loc') := by
  have hlive : ∀ q, q ∈ hs.map Prod.fst → Live σ.hp (g q) ∧ Live (σ.hp.dropL view) (g q) ∧ (0 < q ∧ (q < 100 ∨ 1000000000000 ≤ q)) := fun q hq => by
    obtain ⟨⟨q', blk⟩, hm, rfl⟩ := List.mem_map.1 hq
    obtain ⟨h1, h2, h3⟩ := hhs _ _ hm
    exact ⟨by simp [Live, h3], by simp [Live, dropL_heap, h2, h3], h1⟩
  have hkd : (hs.map Prod.fst).Nodup := hnd
  let c' : Ctx := { w0 := w, ok0 := okOf c w (σ.hp.dropL view) loc, md := fun b => ∃ q δ, q ∈ hs.map Prod.fst ∧ loc (g q) = some (b, δ), floc := fun q => loc (g q), zero := by
                      have h0 : (0 : Nat) ∉ hs.map Prod.fst := fun hq => by have := (hlive 0 hq).2.2.1; omega
                      rw [hg0 0 h0, h.fix 0 (by omega)]; exact c.zero,
                    lt := fun b hb => hb.1, apart := fun b hb ⟨q, δ, hq, he⟩ => hb.2.2 (g q) δ (hlive q hq).2.1 he }
  have hok : ∀ b, okOf c w (σ.hp.dropL view) loc b → okOf c' w (hpOf hs) (fun q => loc (g q)) b := fun b hb =>
    ⟨hb.1, .inl hb, fun q δ hl he => by
      have hq : q ∈ hs.map Prod.fst := by
        cases hlk : lookH hs q with
        | none => simp [Live, hpOf, hlk] at hl
        | some blk => exact List.mem_map_of_mem (f := Prod.fst) (lookH_some hlk)
      exact hb.2.2 (g q) δ (hlive q hq).2.1 he⟩
  have hpre : RepL P c' (st hs) (fun _ => undef) w vals args (fun q => loc (g q)) := by
    refine ⟨fun s => .unk _, by rw [h.len, hfit], fun i v x hv hx => ?_, fun q blk hq => ?_, fun q q' b δ δ' l1 l2 e1 e2 => ?_, fun q b δ l1 e1 => ?_, ⟨rfl, rfl, rfl, Nat.le_refl _, fun _ _ _ => rfl, Shapes.refl w⟩, fun _ _ => rfl, fun q hq => ?_, fun q hl => ?_⟩
    · have hlt : i < as.length := by have := (List.getElem?_eq_some_iff.1 hx).1; omega
      have := hconv i x as[i] v hx (List.getElem?_eq_getElem hlt) (h.vals i v _ hv (List.getElem?_eq_getElem hlt))
      exact this.mono (fun b hb => ⟨hok b hb, rfl⟩) (Shapes.refl w)
    · have hm := lookH_some hq
      obtain ⟨h1, h2, h3⟩ := hhs _ _ hm
      exact ((h.heap _ _ h3).unren g).mono (fun b hb => ⟨hok b (hb.dropL view), rfl⟩) (Shapes.refl w) fun _ _ _ => rfl
    · have m : ∀ q, Live (hpOf hs) q → q ∈ hs.map Prod.fst := fun q hl => by
        cases hlk : lookH hs q with
        | none => simp [Live, hpOf, hlk] at hl
        | some blk => exact List.mem_map_of_mem (f := Prod.fst) (lookH_some hlk)
      exact hginj q q' (m q l1) (m q' l2) (h.inj _ _ b δ δ' (hlive q (m q l1)).1 (hlive q' (m q' l2)).1 e1 e2)
    · have hq : q ∈ hs.map Prod.fst := by
        cases hlk : lookH hs q with
        | none => simp [st, Live, hpOf, hlk] at l1
        | some blk => exact List.mem_map_of_mem (f := Prod.fst) (lookH_some hlk)
      exact ⟨(h.own _ b δ (hlive q hq).1 e1).1, fun ho => ho.2.2 (g q) δ (hlive q hq).2.1 e1, .inr ⟨q, δ, hq, e1⟩⟩
    · simp only [st, Bool.or_eq_false_iff, decide_eq_false_iff_not] at hq
      have hn : q ∉ hs.map Prod.fst := fun hm => hq.1 (hlive q hm).2.2.2
      rw [hg0 q hn, h.fix 0 (by omega)]; exact c.zero
    · simp only [st, Bool.or_eq_true]
      refine .inr ?_
      cases hlk : lookH hs q with
      | none => simp [st, Live, hpOf, hlk] at hl
      | some blk => rfl
  refine (hcall c' vals hpre).mono fun e w' ⟨v, x, bs, res, l2, he, hK, hbl, hres, hpost⟩ => ⟨v, x, bs, res, he, hK, hbl, fun ⟨hrn, hfresh⟩ dr hdr => ?_⟩
  -- where the numbers lie afterwards
  let locs : Nat → Option (Nat × Nat) := fun id => if inNew base res.length id = true then (match res[id - base]? with | some p => l2 p.1 | none => none) else loc id
  have hnewU : ∀ id, σ.used id = true → inNew base res.length id = false := fun id hu => by
    cases hi : inNew base res.length id with
    | false => rfl
    | true =>
      simp only [inNew, decide_eq_true_eq] at hi
      have := (hfresh (id - base) (by omega)).1
      rw [show base + (id - base) = id by omega, hu] at this; cases this
  have hnew : ∀ q, q ∈ hs.map Prod.fst → inNew base res.length (g q) = false := fun q hq => hnewU _ (h.liveU _ (hlive q hq).1)
  have hfix : ∀ q, (q < 100 ∨ 1000000000000 ≤ q) → l2 q = loc (g q) := fun q hq => hpost.fix q hq
  have hext := hpost.ext
  have lkeys : ∀ id, inNew base res.length id = false → locs id = loc id := fun id hid => by simp only [locs, hid, Bool.false_eq_true, if_false]
  have lnew : ∀ (j : Nat) (p : Nat × Blk), res[j]? = some p → locs (base + j) = l2 p.1 := fun j p hp => by
    have hj : j < res.length := (List.getElem?_eq_some_iff.1 hp).1
    have : inNew base res.length (base + j) = true := by simp [inNew]; omega
    simp only [locs, this, if_true, Nat.add_sub_cancel_left, hp]
  let keys := hs.map Prod.fst
  let l3 : Nat → Option (Nat × Nat) := fun id => if outE keys res id = true then none else l2 id
  have hin : ∀ id, outE keys res id = false → id ∈ keys ∨ ∃ b, (id, b) ∈ res := fun id ho => by
    simp only [outE, Bool.not_eq_false', Bool.or_eq_true, List.contains_iff_mem] at ho
    rcases ho with h1 | h1
    · exact .inl h1
    · obtain ⟨⟨k, b⟩, hm, rfl⟩ := List.mem_map.1 h1
      exact .inr ⟨b, hm⟩
  have l3e : ∀ id, outE keys res id = false → l3 id = l2 id := fun id ho => by simp only [l3, ho, Bool.false_eq_true, if_false]
  have hren' : ∀ id, outE keys res id = false → locs (renOf g base res id) = l2 id := fun id ho => by
    unfold renOf
    rcases hin id ho with h1 | ⟨b, h1⟩
    · have := (hlive id h1).2.2.2
      rw [if_pos this, lkeys _ (hnew id h1)]; exact (hfix id this).symm
    · have := hres _ h1
      rw [if_neg (by omega)]
      obtain ⟨_, b', g2⟩ := posOf_lt ⟨b, h1⟩
      rw [lnew _ _ g2]
  have hren : ∀ id q, l3 id = some q → locs (renOf g base res id) = some q := fun id q hq => by
    have ho : outE keys res id = false := by
      cases ho : outE keys res id with
      | false => rfl
      | true => simp only [l3, ho, if_true] at hq; cases hq
    rw [hren' id ho, ← l3e id ho]; exact hq
  -- the entries of the heap afterwards
  have hE : ∀ id blk, lookH (resE g base keys bs res) id = some blk → ∃ q b0, (q, b0) ∈ keys.zip bs ++ res ∧ id = renOf g base res q ∧ blk = (b0.kp (outE keys res)).ren (renOf g base res) ∧ outE keys res q = false := by
    intro id blk hl
    have := lookH_some hl
    simp only [resE, List.mem_map, Prod.mk.injEq] at this
    obtain ⟨⟨q, b0⟩, hm, rfl, rfl⟩ := this
    refine ⟨q, b0, hm, rfl, rfl, ?_⟩
    simp only [outE, Bool.not_eq_false', Bool.or_eq_true, List.contains_iff_mem]
    rcases List.mem_append.1 hm with h1 | h1
    · exact .inl (List.of_mem_zip h1).1
    · exact .inr (List.mem_map_of_mem (f := Prod.fst) h1)
  have hzl : (keys.zip bs ++ res).map Prod.fst = keys ++ res.map Prod.fst := by
    rw [List.map_append, List.map_fst_zip (by simp [keys, hbl])]
  have hnodup : ((keys.zip bs ++ res).map Prod.fst).Nodup := by
    rw [hzl, List.nodup_append]
    refine ⟨hkd, hrn, fun a ha b hb => ?_⟩
    have h1 := (hlive a ha).2.2.2
    obtain ⟨⟨k, b'⟩, hm, rfl⟩ := List.mem_map.1 hb
    have h2 := hres _ hm
    intro he; subst he; omega
  have hpl : ∀ q b0, (q, b0) ∈ keys.zip bs ++ res → (hpOf (keys.zip bs ++ res)).heap q = some b0 := fun q b0 hm => lookH_mem hm hnodup
  have hEk : ∀ q, q ∈ keys → lookH (resE g base keys bs res) (g q) ≠ none := fun q hq hn => by
    have hq1 : q ∈ (keys.zip bs ++ res).map Prod.fst := by rw [hzl]; simp [hq]
    obtain ⟨⟨k, b0⟩, hm, rfl⟩ := List.mem_map.1 hq1
    have h1 := lookH_none hn ((b0.kp (outE keys res)).ren (renOf g base res))
    apply h1
    simp only [resE, List.mem_map, Prod.mk.injEq]
    exact ⟨_, hm, by simp only [renOf, (hlive k hq).2.2.2, if_true], rfl⟩
  have hEn : ∀ id, inNew base res.length id = true → lookH (resE g base keys bs res) id ≠ none := fun id hid hn => by
    simp only [inNew, decide_eq_true_eq] at hid
    have hj : id - base < res.length := by omega
    have hm : res[id - base] ∈ keys.zip bs ++ res := List.mem_append_right _ (List.getElem_mem hj)
    have h1 := lookH_none hn ((res[id - base].2.kp (outE keys res)).ren (renOf g base res))
    apply h1
    simp only [resE, List.mem_map, Prod.mk.injEq]
    refine ⟨_, hm, ?_, rfl⟩
    have hge := hres _ (List.getElem_mem hj)
    obtain ⟨p1, b', p2⟩ := posOf_lt (id := res[id - base].1) ⟨res[id - base].2, List.getElem_mem hj⟩
    have : posOf res[id - base].1 res = id - base := by
      have e1 : (res.map Prod.fst)[posOf res[id - base].1 res]? = (res.map Prod.fst)[id - base]? := by
        rw [List.getElem?_map, p2, List.getElem?_map, List.getElem?_eq_getElem hj]; rfl
      exact (List.getElem?_inj (by simpa using p1) hrn).1 e1
    rw [renOf, if_neg (by omega), this]; omega
  let hp1 : HP := if dr then σ.hp.dropL view else σ.hp
  let hp2 : HP := (σ.after g base dr view keys bs res).hp
  have hp2v : ∀ id, hp2.heap id = match lookH (resE g base keys bs res) id with | some b => some b | none => hp1.heap id := fun id => rfl
  have hp1l : ∀ id blk, hp1.heap id = some blk → σ.hp.heap id = some blk := fun id blk hb => by
    simp only [hp1] at hb
    split at hb
    · rw [dropL_heap] at hb; split at hb
      · cases hb
      · exact hb
    · exact hb
  -- a number that is live afterwards: one of the entries, or an elder one
  have hcase : ∀ id, Live hp2 id → (∃ q, outE keys res q = false ∧ id = renOf g base res q ∧ Live (hpOf (keys.zip bs ++ res)) q) ∨
      (lookH (resE g base keys bs res) id = none ∧ Live hp1 id ∧ Live σ.hp id ∧ inNew base res.length id = false ∧ ∀ q, q ∈ keys → id ≠ g q) := by
    intro id hl
    cases hlk : lookH (resE g base keys bs res) id with
    | some blk =>
      obtain ⟨q, b0, hm, h1, h2, h3⟩ := hE id blk hlk
      exact .inl ⟨q, h3, h1, by simp [Live, hpl q b0 hm]⟩
    | none =>
      refine .inr ⟨rfl, ?_, ?_, ?_, ?_⟩
      · simpa only [Live, hp2v, hlk] using hl
      · simp only [Live, hp2v, hlk] at hl ⊢
        cases h1 : hp1.heap id with
        | none => exact absurd h1 hl
        | some blk => rw [hp1l id blk h1]; simp
      · cases hi : inNew base res.length id with
        | false => rfl
        | true => exact absurd hlk (hEn id hi)
      · intro q hq he; exact hEk q hq (he ▸ hlk)
  have hother : ∀ b, b < w.heap.size → (∀ q δ, q ∈ keys → loc (g q) ≠ some (b, δ)) → w'.heap[b]? = w.heap[b]? := fun b hb hno =>
    hext.block b hb fun ⟨q, δ, hq, he⟩ => hno q δ hq he
  have hwz : w.heap.size ≤ w'.heap.size := hext.size
  -- data that the caller held
  have hk1 : ∀ b, okOf c w σ.hp loc b → okOf c w' hp2 locs b ∧ w'.heap[b]? = w.heap[b]? := by
    intro b hb
    refine ⟨⟨Nat.lt_of_lt_of_le hb.1 hwz, hb.2.1, fun id δ hl he1 => ?_⟩, hother b hb.1 fun q δ hq he1 => hb.2.2 (g q) δ (hlive q hq).1 he1⟩
    rcases hcase id hl with ⟨q, ho, rfl, hql⟩ | ⟨_, _, h3, h4, _⟩
    · rw [hren' q ho] at he1
      exact (hpost.own q b δ hql he1).2.1 (hb.dropL view)
    · rw [lkeys id h4] at he1; exact hb.2.2 id δ h3 he1
  -- data that came back
  have hk2 : (dr = true ∨ view = []) → ∀ b, okOf c' w' (hpOf (keys.zip bs ++ res)) l2 b → okOf c w' hp2 locs b := by
    intro hdv b ⟨b1, b2, b3⟩
    have hd : ∀ id, Live hp1 id → Live (σ.hp.dropL view) id := fun id hl => by
      simp only [hp1] at hl
      split at hl
      · exact hl
      · rename_i hdr'
        rcases hdv with h1 | h1
        · exact absurd h1 hdr'
        · subst h1; exact hl
    refine ⟨b1, ?_, fun id δ hl he1 => ?_⟩
    · rcases b2 with b2 | b2 | ⟨q, δ, hq, he1⟩
      · exact b2.2.1
      · exact .inr (.inl (Nat.le_trans h.ext.size b2))
      · exact .inr (h.own _ b δ (hlive q hq).1 he1).2.2
    · rcases hcase id hl with ⟨q, ho, rfl, hql⟩ | ⟨_, h2, h3, h4, h5⟩
      · rw [hren' q ho] at he1; exact b3 q δ hql he1
      · rw [lkeys id h4] at he1
        rcases b2 with b2 | b2 | ⟨q, δ', hq, he2⟩
        · exact b2.2.2 id δ (hd id h2) he1
        · have := (h.own id b δ h3 he1).1
          have hb2 : w.heap.size ≤ b := b2
          omega
        · exact h5 q hq (h.inj id (g q) b δ δ' h3 (hlive q hq).1 he1 he2)
  have lext : ∀ id q, loc id = some q → locs id = some q := fun id q hq => by
    have hu : σ.used id = true := by
      cases hu : σ.used id with
      | true => rfl
      | false => rw [h.dom id hu] at hq; cases hq
    rw [lkeys id (hnewU id hu)]; exact hq
  have hl3 : ∀ id, outE keys res id = false → l3 id = l2 id := l3e
  have hsh : Shapes w' w' := Shapes.refl w'
  have back : ∀ {u y}, RepA P w' (okOf c' w' (hpOf (keys.zip bs ++ res)) l2) l2 u y → RepA P w' (okOf c' w' (hpOf (keys.zip bs ++ res)) l2) locs u ((y.kp (outE keys res)).ren (renOf g base res)) := fun hr =>
    (hr.mono_kp (fun b hb => ⟨hb, rfl⟩) hsh (outE keys res) hl3).ren _ hren
  have hshape : Shapes w w' := hext.shape
  refine ⟨locs, ?_, rfl, fun i u y hu hy => ?_, fun id blk hid => ?_, fun id id' b δ δ' m1 m2 e1 e2 => ?_, fun id b δ m1 e1 => ?_, ⟨?_, ?_, ?_, ?_, ?_, ?_⟩, fun id hid => ?_, fun id hid => ?_, fun id hl => ?_⟩
  · intro s
    exact (h.slots s).mono_ext hk1 hshape lext
  · cases i with
    | succ i => simp at hu
    | zero =>
      simp only [List.getElem?_cons_zero, Option.some.injEq] at hu hy
      subst hu; subst hy
      have hv := hpost.vals 0 v x rfl rfl
      rcases hdr with h1 | h1 | ⟨h1, _⟩
      · exact (back hv).mono (fun b hb => ⟨hk2 (.inl h1) b hb, rfl⟩) hsh
      · exact (back hv).mono (fun b hb => ⟨hk2 (.inr h1) b hb, rfl⟩) hsh
      · exact ((hv.flatR (ok' := okOf c w' hp2 locs) h1).mono_kp (fun b hb => ⟨hb, rfl⟩) hsh (outE keys res) hl3).ren _ hren
  · change hp2.heap id = some blk at hid
    rw [hp2v] at hid
    cases hlk : lookH (resE g base keys bs res) id with
    | some blk' =>
      rw [hlk] at hid
      simp only [Option.some.injEq] at hid; subst hid
      obtain ⟨q, b0, hm, rfl, rfl, ho⟩ := hE id _ hlk
      have hb := hpost.heap q b0 (hpl q b0 hm)
      have hnone : l3 q = none → locs (renOf g base res q) = none := fun hn => by rw [hren' q ho, ← l3e q ho]; exact hn
      have conv : ∀ ok', RepB P w' ok' l2 q b0 → RepB P w' ok' locs (renOf g base res q) ((b0.kp (outE keys res)).ren (renOf g base res)) := fun ok' hb' =>
        (hb'.mono_kp (fun b hb => ⟨hb, rfl⟩) hsh (outE keys res) ho hl3 fun _ _ _ => rfl).ren _ hren hnone
      rcases hdr with h1 | h1 | ⟨_, h1, h2⟩
      · exact (conv _ hb).mono (fun b hb => ⟨hk2 (.inl h1) b hb, rfl⟩) hsh fun _ _ _ => rfl
      · exact (conv _ hb).mono (fun b hb => ⟨hk2 (.inr h1) b hb, rfl⟩) hsh fun _ _ _ => rfl
      · refine conv _ (hb.flatR ?_)
        rcases List.mem_append.1 hm with h3 | h3
        · exact List.all_eq_true.1 h1 b0 (List.of_mem_zip h3).2
        · exact List.all_eq_true.1 h2 (q, b0) h3
    | none =>
      rw [hlk] at hid
      have hb' : hp1.heap id = some blk := hid
      have hlv : Live hp2 id := by simp only [Live, hp2v, hlk, hb']; simp
      rcases hcase id hlv with ⟨q, ho, rfl, hql⟩ | ⟨_, h2, h3, h4, h5⟩
      · exfalso
        have : ∃ b0, (q, b0) ∈ keys.zip bs ++ res := by
          cases hl0 : lookH (keys.zip bs ++ res) q with
          | none => simp [Live, hpOf, hl0] at hql
          | some b0 => exact ⟨b0, lookH_some hl0⟩
        obtain ⟨b0, hm⟩ := this
        refine lookH_none hlk ((b0.kp (outE keys res)).ren (renOf g base res)) ?_
        simp only [resE, List.mem_map, Prod.mk.injEq]
        exact ⟨_, hm, rfl, rfl⟩
      · refine (h.heap id blk (hp1l id blk hb')).mono_ext hk1 hshape lext (lkeys id h4) fun b δ he1 => hother b (h.own id b δ h3 he1).1 fun q δ' hq he2 => ?_
        exact h5 q hq (h.inj id (g q) b δ δ' h3 (hlive q hq).1 he1 he2)
  · rcases hcase id m1 with ⟨q, ho, rfl, hql⟩ | ⟨_, _, h3, h4, h5⟩ <;> rcases hcase id' m2 with ⟨q', ho', rfl, hql'⟩ | ⟨_, _, h3', h4', h5'⟩
    · rw [hren' q ho] at e1; rw [hren' q' ho'] at e2
      rw [hpost.inj q q' b δ δ' hql hql' e1 e2]
    · exfalso
      rw [hren' q ho] at e1; rw [lkeys id' h4'] at e2
      have hb := (h.own id' b δ' h3' e2).1
      rcases (hpost.own q b δ hql e1).2.2 with h6 | ⟨q2, δ2, hq2, h6⟩
      · have h6' : w.heap.size ≤ b := h6
        omega
      · exact h5' q2 hq2 (h.inj id' (g q2) b δ' δ2 h3' (hlive q2 hq2).1 e2 h6)
    · exfalso
      rw [hren' q' ho'] at e2; rw [lkeys id h4] at e1
      have hb := (h.own id b δ h3 e1).1
      rcases (hpost.own q' b δ' hql' e2).2.2 with h6 | ⟨q2, δ2, hq2, h6⟩
      · have h6' : w.heap.size ≤ b := h6
        omega
      · exact h5 q2 hq2 (h.inj id (g q2) b δ δ2 h3 (hlive q2 hq2).1 e1 h6)
    · rw [lkeys id h4] at e1; rw [lkeys id' h4'] at e2
      exact h.inj id id' b δ δ' h3 h3' e1 e2
  · rcases hcase id m1 with ⟨q, ho, rfl, hql⟩ | ⟨_, _, h3, h4, h5⟩
    · rw [hren' q ho] at e1
      obtain ⟨o1, o2, o3⟩ := hpost.own q b δ hql e1
      rcases o3 with o3 | ⟨q2, δ2, hq2, o3⟩
      · have o3' : w.heap.size ≤ b := o3
        have := h.ext.size
        exact ⟨o1, fun hc => by have := c.lt b hc; omega, .inl (by omega)⟩
      · exact ⟨o1, (h.own _ b δ2 (hlive q2 hq2).1 o3).2⟩
    · rw [lkeys id h4] at e1
      obtain ⟨o1, o2, o3⟩ := h.own id b δ h3 e1
      exact ⟨Nat.lt_of_lt_of_le o1 hwz, o2, o3⟩
  · exact hext.os.trans h.ext.os
  · exact hext.tape.trans h.ext.tape
  · exact hext.output.trans h.ext.output
  · exact Nat.le_trans h.ext.size hwz
  · intro b hb hm
    rw [hother b (Nat.lt_of_lt_of_le hb h.ext.size) fun q δ hq he1 => ?_]
    · exact h.ext.block b hb hm
    · rcases (h.own _ b δ (hlive q hq).1 he1).2.2 with o3 | o3
      · omega
      · exact hm o3
  · exact h.ext.shape.trans hshape
  · have hbl : res.length = 0 ∨ base + (res.length - 1) < 1000000000000 := by
      rcases Nat.eq_zero_or_pos res.length with h0 | h0
      · exact .inl h0
      · exact .inr (hfresh (res.length - 1) (by omega)).2
    have : inNew base res.length id = false := by simp [inNew]; omega
    rw [lkeys id this]; exact h.fix id hid
  · change (inNew base res.length id || σ.used id) = false at hid
    rw [Bool.or_eq_false_iff] at hid
    rw [lkeys id hid.1]; exact h.dom id hid.2
  · change (inNew base res.length id || σ.used id) = true
    rw [Bool.or_eq_true]
    rcases hcase id hl with ⟨q, ho, rfl, hql⟩ | ⟨_, _, h3, _, _⟩
    · rcases hin q ho with h1 | ⟨b, h1⟩
      · right
        have := (hlive q h1).2.2.2
        rw [renOf, if_pos this]; exact h.liveU _ (hlive q h1).1
      · left
        have := hres _ h1
        obtain ⟨p1, _⟩ := posOf_lt ⟨b, h1⟩
        rw [renOf, if_neg (by omega)]
        simp only [inNew, decide_eq_true_eq]; omega
    · exact .inr (h.liveU id h3)

end
end Go.Fw

/- What an operation does to the abstract state. -/
namespace Go.Fw
open Go

def AS.opd (σ : AS) : Operand → AV
  | .tmp t => σ.sl t
  | .const v => ofVal v
  | .global _ => .unk
  | .func f => .fv (.func f) [] []

def st1 (f : AV → PA) (x : AV) : PA := (x.strip.1 ∧ (f x.strip.2).1, (f x.strip.2).2)
def st2 (f : AV → AV → PA) (x y : AV) : PA := (x.strip.1 ∧ y.strip.1 ∧ (f x.strip.2 y.strip.2).1, (f x.strip.2 y.strip.2).2)
def stO : Option AV → Prop × Option AV
  | none => (True, none)
  | some x => (x.strip.1, some x.strip.2)

def fMax : AV → AV → PA
  | .d (.int k a), .d (.int k' b) => (k = k', .d (.int k (max a b)))
  | _, _ => (False, .unk)
/-- A slice of bytes as a string. -/
def fConvB (P : Program) (s t : TypeId) (q : Option (Prop × List D)) : PA :=
  match q with
  | some (p, ys) => (p ∧ tByteSl P s = true ∧ tStr P t = true ∧ ys.all D.isU8 = true, .d (.str (ys.map D.u8)))
  | none => (False, .unk)
def fConvX (P : Program) (hp : HP) (s t : TypeId) : AV → PA
  | .d (.int k n) => fConv P s t (.d (.int k n))
  | .d (.list ys) => fConvB P s t (srcOf hp (.d (.list ys)))
  | .nl => fConvB P s t (srcOf hp .nl)
  | .sl sz id off len => fConvB P s t (srcOf hp (.sl sz id off len))
  | _ => (False, .unk)
def fMin : AV → AV → PA
  | .d (.int k a), .d (.int k' b) => (k = k', .d (.int k (min a b)))
  | _, _ => (False, .unk)

/-- Where a part of a struct or array literal lies, and how many cells it has. -/
def placeOf (P : Program) (t : TypeId) (i : Nat) : Option (Nat × Nat) :=
  match P.underlying t with
  | some (.struct fs) => match fs[i]? with
    | some fl => match P.info? fl.type with
      | some ti => some (fl.offset, ti.size)
      | none => none
    | none => none
  | some (.array _ e) => match P.info? e with
    | some ti => some (i * ti.size, ti.size)
    | none => none
  | _ => none
/-- All its fields have sizes. -/
def fieldsOk (P : Program) (t : TypeId) : Bool :=
  match P.underlying t with
  | some (.struct fs) => fs.all fun f => (P.info? f.type).isSome
  | some (.array _ e) => (P.info? e).isSome
  | _ => false

def fBuildGo (P : Program) (t : TypeId) : List (Nat × AV) → List AV → PA
  | [], cs => (True, mkAg cs)
  | (i, x) :: r, cs => match placeOf P t i, cellsA x.strip.2 with
    | some (off, sz), some ys => ((x.strip.1 ∧ ys.length = sz ∧ off + sz ≤ cs.length) ∧ (fBuildGo P t r (setCells off ys cs)).1, (fBuildGo P t r (setCells off ys cs)).2)
    | _, _ => (False, .unk)
def fBuild (P : Program) (t : TypeId) (parts : List (Nat × AV)) : PA :=
  match tI P t with
  | some (true, _, z) => (fieldsOk P t = true ∧ (fBuildGo P t parts (z.map ofVal)).1, (fBuildGo P t parts (z.map ofVal)).2)
  | _ => (False, .unk)

/-- Built-in functions that only yield a value. -/
def fCall (P : Program) (σ : AS) : Callee → List Operand → List TypeId → Option PA
  | .builtin .len, [x], [t] => some (st1 (fLen P t) (σ.opd x))
  | .builtin .min, [x, y], _ => some (st2 fMin (σ.opd x) (σ.opd y))
  | .builtin .max, [x, y], _ => some (st2 fMax (σ.opd x) (σ.opd y))
  | _, _, _ => none

/-- The operations that only yield a value. -/
def fval (P : Program) (σ : AS) : Op → Option PA
  | .move x => some (True, σ.opd x)
  | .assign x => some (True, σ.opd x)
  | .pick c a b => some (fPick (σ.opd c) (σ.opd a) (σ.opd b))
  | .binOp op t x y _ => some (st2 (fBin P op t) (σ.opd x) (σ.opd y))
  | .unOp op _ x => some (st1 (fUn op) (σ.opd x))
  | .convert s t x => some (st1 (fConvX P σ.hp s t) (σ.opd x))
  | .load t x => some (st1 (fLoad P t σ.hp) (σ.opd x))
  | .fieldAddr t x f => some (st1 (fField P t f) (σ.opd x))
  | .indexAddr t x i => some (st2 (fIdx P t) (σ.opd x) (σ.opd i))
  | .index t x i => some (st2 (fIndex P t) (σ.opd x) (σ.opd i))
  | .slice t x lo hi none => some ((σ.opd x).strip.1 ∧ (stO (lo.map σ.opd)).1 ∧ (stO (hi.map σ.opd)).1 ∧ (fSlice P t (σ.opd x).strip.2 (stO (lo.map σ.opd)).2 (stO (hi.map σ.opd)).2).1,
      (fSlice P t (σ.opd x).strip.2 (stO (lo.map σ.opd)).2 (stO (hi.map σ.opd)).2).2)
  | .extract x i => some (st1 (fExtract i) (σ.opd x))
  | .nilCheck x => some (st1 fNil (σ.opd x))
  | .makeFunc fn first caps => some (True, .fv fn (first.toList.map σ.opd) (caps.toList.map σ.opd))
  | .build t parts => some (fBuild P t (parts.toList.map fun p => (p.1, σ.opd p.2)))
  | .call cl => fCall P σ cl.callee cl.args.toList cl.argTypes.toList
  | _ => none

section
variable {P : Program} {c : Ctx} {σ : AS} {ρ : Nat → Value} {w : World} {vs : List Value} {xs : List AV} {loc : Nat → Option (Nat × Nat)}

/-- A frame's operands. -/
def evalR (ρ : Nat → Value) : Operand → Value
  | .tmp t => ρ t
  | .const v => v
  | .global g => .pointer (some ⟨g, 0, none⟩)
  | .func f => .func (.func f) #[] #[]

theorem RepL.opd (h : RepL P c σ ρ w vs xs loc) (x : Operand) : RepA P w (okOf c w σ.hp loc) loc (evalR ρ x) (σ.opd x) := by
  cases x with
  | tmp t => exact h.slots t
  | const v => exact .ofVal v
  | global g => exact .unk _
  | func f => exact .fv rfl rfl (fun i v y hv => by simp at hv) (fun i v y hv => by simp at hv)

def D.iv : D → Int
  | .int _ n => n
  | _ => 0
theorem foldl_push8 : ∀ (ys : List D) (acc : List UInt8), (ys.map D.iv).foldl (fun (r : ByteArray) (n : Int) => r.push (UInt8.ofNat n.toNat)) ⟨acc.toArray⟩ = ⟨(acc ++ ys.map D.u8).toArray⟩
  | [], acc => by simp
  | y :: r, acc => by
    rw [List.map_cons, List.foldl_cons]
    have : ∀ b : UInt8, (⟨acc.toArray⟩ : ByteArray).push b = ⟨(acc ++ [b]).toArray⟩ := fun b => by simp [ByteArray.push]
    rw [this, foldl_push8 r]
    cases y <;> simp [D.iv, D.u8]

theorem RepL.convB (h : RepL P c σ ρ w vs xs loc) {s t : TypeId} {x : AV} {v : Value} (hc : (fConvB P s t (srcOf σ.hp x)).1) (hx : RepA P w (okOf c w σ.hp loc) loc v x) :
    ∃ u, (convert s t v).run P w = .ok u w ∧ RepA P w (okOf c w σ.hp loc) loc u (fConvB P s t (srcOf σ.hp x)).2 := by
  unfold fConvB at hc ⊢
  split at hc
  · rename_i p ys hsrc
    obtain ⟨hp, hs, ht, hu⟩ := hc
    have hall : ∀ y ∈ ys, ∃ n, y = .int .u8 n := fun y hy => by
      have := List.all_eq_true.1 hu y hy
      unfold D.isU8 at this
      split at this
      · exact ⟨_, rfl⟩
      · cases this
    have hfit : ∀ y ∈ ys, y.fits 1 := fun y hy => by obtain ⟨n, rfl⟩ := hall y hy; exact ⟨rfl, fun z hz => by simp [D.cells] at hz; subst hz; rfl⟩
    obtain ⟨hlo, g, hg, hr⟩ := src_cells h hsrc hp hx 1 hfit
    replace hg := hg _ (Nat.le_refl _)
    have hsl : ∃ a l cp, v = .slice a l cp := by
      unfold srcOf at hsrc
      split at hsrc
      · cases hx with | d hx => cases hx <;> exact ⟨_, _, _, rfl⟩
      · cases hx; exact ⟨_, _, _, rfl⟩
      · cases hx <;> exact ⟨_, _, _, rfl⟩
      · cases hsrc
    obtain ⟨a, l, cp, rfl⟩ := hsl
    have hlen : l = ys.length := by
      simp only [Builtin.lenOf, Sem.run_pure, Result.ok.injEq, and_true] at hlo
      omega
    have hbs : P.underlying t = some .string := by
      unfold tStr at ht; split at ht
      · assumption
      · cases ht
    obtain ⟨e, he1, he2⟩ : ∃ e, P.underlying s = some (.slice e) ∧ P.underlying e = some (.int .u8) := by
      unfold tByteSl at hs
      split at hs
      · rename_i e he
        split at hs
        · rename_i hk; exact ⟨e, he, tInt_und hk⟩
        · cases hs
      · cases hs
    have hcells : ((List.range (ys.length * 1)).map g) = (ys.map D.iv).map (Value.int .u8) := by
      refine List.ext_getElem (by simp) fun i h1 h2 => ?_
      simp only [List.length_map, List.length_range, Nat.mul_one] at h1
      obtain ⟨n, hn⟩ := hall ys[i] (List.getElem_mem h1)
      have := hr i 0 ys[i] (.int .u8 n) (List.getElem?_eq_getElem h1) (by rw [hn]; rfl)
      simp only [Nat.mul_one, Nat.add_zero] at this
      simp only [List.getElem_map, List.getElem_range, hn, D.iv]
      generalize g i = v at this
      cases this; rfl
    rw [run_convert_bytes_string w s t e a l cp he1 he2 hbs]
    rw [hcells] at hg
    have hstr : (⟨(ys.map D.u8).toArray⟩ : ByteArray) = (ys.map D.iv).foldl (fun (r : ByteArray) (n : Int) => r.push (UInt8.ofNat n.toNat)) ByteArray.empty := by
      have := foldl_push8 ys []
      rw [List.nil_append] at this
      exact this.symm
    refine ⟨.string ⟨(ys.map D.u8).toArray⟩, ?_, .str _⟩
    cases a with
    | some a =>
      simp only [Builtin.firstCells, Nat.mul_one] at hg
      rw [← hlen] at hg
      rw [run_bytesToString w a l cp _ hg, hstr]
    | none =>
      simp only [Builtin.firstCells, Sem.run_pure, Result.ok.injEq, and_true] at hg
      have : ys = [] := by
        have := congrArg Array.size hg
        simp at this
        exact List.eq_nil_of_length_eq_zero this.symm
      subst this
      simp [Conv.bytesToString]
      rfl
  · exact hc.elim

theorem RepL.load (h : RepL P c σ ρ w vs xs loc) {t : TypeId} {x : AV} {v : Value} (hc : (fLoad P t σ.hp x).1) (hx : RepA P w (okOf c w σ.hp loc) loc v x) :
    ∃ u, (Instr.loadAt t v).run P w = .ok u w ∧ RepA P w (okOf c w σ.hp loc) loc u (fLoad P t σ.hp x).2 := by
  have run : ∀ a, (Instr.loadAt t (.pointer (some a))).run P w = (loadVar t a).run P w := fun a => by simp [Instr.loadAt, Instr.sureAddr]
  unfold fLoad at hc ⊢
  split at hc
  · rename_i id off
    split at hc
    · rename_i cs a n z hh ht
      cases hx with | @ptr _ _ b δ hl =>
      cases h.heap id _ hh with | @bx b' cur T _ hl' hb hz hcs =>
      rw [hl] at hl'; simp only [Option.some.injEq, Prod.mk.injEq] at hl'; obtain ⟨rfl, rfl⟩ := hl'
      rw [run]
      refine run_loadVar ht hb (fun j y hy => ?_) hc
      rw [List.getElem?_drop] at hy
      have hlt : off + j < cs.length := (List.getElem?_eq_some_iff.1 hy).1
      refine ⟨cur[off + j]'(by omega), by rw [Nat.zero_add]; exact Array.getElem?_eq_getElem _, hcs _ _ y (Array.getElem?_eq_getElem _) hy⟩
    · exact hc.elim
  · rename_i cs
    split at hc
    · rename_i a n z ht
      cases hx with | @dp b o cur T fz _ u h1 h2 h3 h4 =>
      rw [run]
      exact run_loadVar ht h2 (fun j y hy => ⟨u j, h3 j y hy, h4 j y hy⟩) hc
    · exact hc.elim
  · rename_i sz id i off
    split at hc
    · rename_i sz' ys a n z hh ht
      obtain ⟨⟨hi, rfl⟩, hc⟩ := hc
      cases hx with | @ep _ _ _ _ b δ hl =>
      cases h.heap id _ hh with
      | ar0 _ _ => simp at hi
      | @ar b' δ' cur T _ _ us hl' hb hz hs hcc hu =>
        rw [hl] at hl'; simp only [Option.some.injEq, Prod.mk.injEq] at hl'; obtain ⟨rfl, rfl⟩ := hl'
        rw [run]
        have hget : ys[i]? = some (ys.getD i D.dflt) := by simp [List.getD, List.getElem?_eq_getElem hi]
        refine run_loadVar ht hb (fun j y hy => ?_) hc
        simp only [List.getElem?_map, Option.map_eq_some_iff] at hy
        obtain ⟨y', hy', rfl⟩ := hy
        rw [List.getElem?_drop] at hy'
        refine ⟨us i (off + j), ?_, .d (hu _ _ _ _ hget hy')⟩
        rw [show δ + i * sz + off + j = δ + i * sz + (off + j) by omega]
        exact hcc _ _ _ _ hget hy'
    · rename_i cs a n z hh ht
      cases hx with | @ep _ _ _ _ b δ hl =>
      cases h.heap id _ hh with | @bx b' cur T _ hl' hb hz hcs =>
      rw [hl] at hl'; simp only [Option.some.injEq, Prod.mk.injEq] at hl'; obtain ⟨rfl, rfl⟩ := hl'
      rw [run]
      refine run_loadVar ht hb (fun j y hy => ?_) hc
      rw [List.getElem?_drop] at hy
      have hlt : i * sz + off + j < cs.length := (List.getElem?_eq_some_iff.1 hy).1
      refine ⟨cur[i * sz + off + j]'(by omega), ?_, hcs _ _ y (Array.getElem?_eq_getElem _) hy⟩
      rw [show 0 + i * sz + off + j = i * sz + off + j by omega]
      exact Array.getElem?_eq_getElem _
    · exact hc.elim
  · exact hc.elim

theorem fill_build {place : Nat → Option (Nat × Nat)} {t : TypeId} {ok : Nat → Prop} (hp : ∀ i q, placeOf P t i = some q → place i = some q) : ∀ (parts : List (Nat × AV)) (vals : List (Nat × Value)) (cs : List AV) (cells : Array Value),
    vals.length = parts.length → (∀ (k : Nat) p q, vals[k]? = some p → parts[k]? = some q → p.1 = q.1 ∧ RepA P w ok loc p.2 q.2) →
    cells.size = cs.length → (∀ (i : Nat) u y, cells[i]? = some u → cs[i]? = some y → RepA P w ok loc u y) → (fBuildGo P t parts cs).1 →
    ∃ cells', Instr.fill place cells vals = some cells' ∧ RepA P w ok loc (.agg cells') (fBuildGo P t parts cs).2
  | [], [], cs, cells, _, _, hl, hc, _ => ⟨cells, rfl, .mkAg hl hc⟩
  | (i, x) :: r, (i', v) :: r', cs, cells, hlen, hv, hl, hc, h => by
    simp only [fBuildGo] at h ⊢
    obtain ⟨rfl, hx⟩ := hv 0 _ _ rfl rfl
    split at h
    · rename_i off sz ys hpl hca
      obtain ⟨⟨h0, rfl, h2⟩, h3⟩ := h
      obtain ⟨e1, e2⟩ := cellsA_rep (hx.strip h0) hca
      replace e1 : v.cells.size = ys.length := e1
      have hsp : off + v.cells.toList.length ≤ cells.size := by simp; omega
      have hfold : v.cells.zipIdx.foldl (fun cs (p : Value × Nat) => cs.setIfInBounds (off + p.2) p.1) cells = splice cells off v.cells.toList := by
        have gen : ∀ (l : List Value) (s : Nat) (cs : Array Value), off + s + l.length ≤ cs.size →
            (l.zipIdx s).foldl (fun cs (p : Value × Nat) => cs.setIfInBounds (off + p.2) p.1) cs = splice cs (off + s) l := by
          intro l
          induction l with
          | nil => intro s cs _; simp [splice]
          | cons x l ih =>
            intro s cs hcs
            simp only [List.length_cons] at hcs
            rw [List.zipIdx_cons, List.foldl_cons, ih (s + 1) _ (by simp; omega)]
            apply Array.ext_getElem?
            intro q
            rw [splice_get (by simp; omega), splice_get (by simp; omega)]
            simp only [List.length_cons]
            by_cases h1 : off + (s + 1) ≤ q ∧ q < off + (s + 1) + l.length
            · rw [if_pos h1, if_pos (by omega), show q - (off + s) = (q - (off + (s + 1))) + 1 by omega, List.getElem?_cons_succ]
            · rw [if_neg h1]
              by_cases h2 : q = off + s
              · subst h2
                rw [if_pos (by omega), Nat.sub_self, List.getElem?_cons_zero, Array.getElem?_setIfInBounds_self_of_lt (by omega)]
              · rw [if_neg (by omega), Array.getElem?_setIfInBounds_ne (Ne.symm h2)]
        have := gen v.cells.toList 0 cells (by simpa using hsp)
        simp only [Nat.add_zero] at this
        rw [← this, ← Array.foldl_toList, Array.toList_zipIdx]
      obtain ⟨cells', f1, f2⟩ := fill_build hp r r' (setCells off ys cs) (splice cells off v.cells.toList) (by simpa using hlen) (fun k p q h1 h2 => hv (k + 1) p q (by simpa using h1) (by simpa using h2))
        (by rw [splice_size hsp, setCells_length, hl]) (fun j u y hu hy => by
          rw [splice_get hsp] at hu
          rw [setCells_get ys off cs h2] at hy
          by_cases hj : off ≤ j ∧ j < off + ys.length
          · rw [if_pos hj] at hy
            rw [if_pos (by simp; omega), Array.getElem?_toList] at hu
            exact e2 _ _ _ hu hy
          · rw [if_neg hj] at hy
            rw [if_neg (by simp; omega)] at hu
            exact hc _ _ _ hu hy) h3
      refine ⟨cells', ?_, f2⟩
      simp only [Instr.fill, hp _ _ hpl]
      rw [if_neg (by simp; omega)]
      rw [← f1]; congr 1
    · exact h.elim
  | [], _ :: _, _, _, hlen, _, _, _, _ => by simp at hlen
  | _ :: _, [], _, _, hlen, _, _, _, _ => by simp at hlen

theorem s_build {t : TypeId} {ok : Nat → Prop} {parts : List (Nat × AV)} {vals : List (Nat × Value)} (hl : vals.length = parts.length)
    (hv : ∀ (k : Nat) p q, vals[k]? = some p → parts[k]? = some q → p.1 = q.1 ∧ RepA P w ok loc p.2 q.2) (h : (fBuild P t parts).1) :
    ∃ u, (Instr.build t vals.toArray).run P w = .ok u w ∧ RepA P w ok loc u (fBuild P t parts).2 := by
  unfold fBuild at h ⊢
  split at h
  · rename_i n z ht
    obtain ⟨hf, h⟩ := h
    obtain ⟨_, _, zv, hz, hzl⟩ := tI_runs (w := w) ht
    have hbase : zv.cells.size = (z.map ofVal).length ∧ ∀ (i : Nat) u y, zv.cells[i]? = some u → (z.map ofVal)[i]? = some y → RepA P w ok loc u y := by
      refine ⟨by simp [← hzl], fun i u y hu hy => ?_⟩
      rw [← hzl, List.getElem?_map, Array.getElem?_toList, hu] at hy
      simp only [Option.map_some, Option.some.injEq] at hy; subst hy; exact .ofVal u
    unfold fieldsOk at hf
    split at hf
    · rename_i fs hu
      have hsz : ∀ (l : List Field), (∀ f ∈ l, (P.info? f.type).isSome = true) → (l.mapM (m := Sem) fun f => do pure (f.offset, ← sizeOf f.type)).run P w = .ok (l.map fun f => (f.offset, ((P.info? f.type).map (·.size)).getD 0)) w := by
        intro l
        induction l with
        | nil => intro _; rfl
        | cons f l ih =>
          intro hl
          obtain ⟨i, hi⟩ := Option.isSome_iff_exists.1 (hl f (by simp))
          simp only [List.mapM_cons, Sem.run_bind, run_sizeOf' hi, Result.andThen_ok, Sem.run_pure, ih fun f hf => hl f (by simp [hf]), List.map_cons, hi, Option.map_some, Option.getD_some]
      have hplaces : (fs.mapM (m := Sem) fun f => do pure (f.offset, ← sizeOf f.type)).run P w = .ok (fs.toList.map fun f => (f.offset, ((P.info? f.type).map (·.size)).getD 0)).toArray w := by
        rw [Array.mapM_eq_mapM_toList, Sem.run_map, hsz fs.toList fun f hf' => by
          rw [Array.all_eq_true'] at hf; exact hf f (by simpa using hf')]
        rfl
      obtain ⟨cells', f1, f2⟩ := fill_build (P := P) (w := w) (loc := loc) (ok := ok) (t := t) (place := fun i => (fs.toList.map fun f => (f.offset, ((P.info? f.type).map (·.size)).getD 0)).toArray[i]?) (fun i q hq => by
        simp only [placeOf, hu] at hq
        split at hq
        · rename_i fl hfl
          split at hq
          · rename_i ti hti
            simp only [Option.some.injEq] at hq; subst hq
            simp [hfl, hti]
          · cases hq
        · cases hq) parts vals (z.map ofVal) zv.cells hl hv hbase.1 hbase.2 h
      refine ⟨.agg cells', ?_, f2⟩
      simp only [Instr.build, Sem.run_bind, hz, Result.andThen_ok, run_underlying' hu, hplaces, f1, Sem.run_pure]
    · rename_i len e hu
      obtain ⟨ti, hti⟩ := Option.isSome_iff_exists.1 hf
      obtain ⟨cells', f1, f2⟩ := fill_build (P := P) (w := w) (loc := loc) (ok := ok) (t := t) (place := fun i => some (i * ti.size, ti.size)) (fun i q hq => by
        simp only [placeOf, hu, hti, Option.some.injEq] at hq; rw [hq]) parts vals (z.map ofVal) zv.cells hl hv hbase.1 hbase.2 h
      refine ⟨.agg cells', ?_, f2⟩
      simp only [Instr.build, Sem.run_bind, hz, Result.andThen_ok, run_underlying' hu, run_sizeOf' hti, f1, Sem.run_pure]
    · cases hf
  · exact h.elim

end
end Go.Fw
