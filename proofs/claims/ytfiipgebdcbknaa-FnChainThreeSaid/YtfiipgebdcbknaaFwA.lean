/- The abstract values of a frame, and what it means that a Go value in a world bears one. -/
import Derived.WalkKit
set_option linter.unusedSimpArgs false
set_option linter.unusedVariables false
namespace Go.Fw
open Go

/-- Immutable data. 'list': a slice; 'agg': the cells of a struct or an array. -/
inductive D where
  | int (k : IntKind) (n : Int)
  | bool (b : Bool)
  | str (s : List UInt8)
  | list (xs : List D)
  | agg (cs : List D)

def D.cells : D → List D
  | .agg cs => cs
  | x => [x]

def D.isAgg : D → Bool
  | .agg _ => true
  | _ => false

/-- So many cells, each of them one. -/
def D.fits (sz : Nat) (x : D) : Prop := x.cells.length = sz ∧ ∀ y ∈ x.cells, y.isAgg = false

/-- No slice inside. -/
def D.one : D → Bool
  | .list _ => false
  | .agg _ => false
  | _ => true
def D.flat : D → Bool
  | .agg cs => cs.all D.one
  | x => x.one

/-- Abstract values of slots and cells. -/
inductive AV where
  | unk
  | d (x : D)
  | nl
  | ptr (id off : Nat)
  | sl (sz id off len : Nat)
  | ep (sz id i off : Nat)
  | dp (cs : List AV)
  | ag (cs : List AV)
  | tp (cs : List AV)
  | fv (fn : Fn) (first caps : List AV)
  | clo (S : List D → (D → Prop) → Prop)
  | mp (id : Nat)
  | op (b : Bool) (x : AV)

mutual
def AV.kill (k : Nat) : AV → AV
  | .ptr id off => if id = k then .unk else .ptr id off
  | .sl sz id off len => if id = k then .unk else .sl sz id off len
  | .ep sz id i off => if id = k then .unk else .ep sz id i off
  | .mp id => if id = k then .unk else .mp id
  | .dp cs => .dp (AV.killL k cs)
  | .ag cs => .ag (AV.killL k cs)
  | .tp cs => .tp (AV.killL k cs)
  | .fv fn a b => .fv fn (AV.killL k a) (AV.killL k b)
  | .op b x => .op b (x.kill k)
  | .d x => .d x
  | .nl => .nl
  | .unk => .unk
  | .clo S => .clo S
def AV.killL (k : Nat) : List AV → List AV
  | [] => []
  | x :: r => x.kill k :: AV.killL k r
end

theorem AV.killL_eq (k : Nat) : ∀ l, AV.killL k l = l.map (AV.kill k)
  | [] => rfl
  | x :: r => by simp [AV.killL, AV.killL_eq k r]

/-- What a block of the frame's own holds. 'bx': a variable, cell by cell; 'ar': a row of elements of 'sz' cells each; 'mb': a map. -/
inductive Blk where
  | bx (cs : List AV)
  | ar (sz : Nat) (xs : List D)
  | mb (es : List (D × D))

def Blk.kill (k : Nat) : Blk → Blk
  | .bx cs => .bx (AV.killL k cs)
  | b => b

/-- The value 'v' is the datum, read in blocks that 'ok' names. -/
inductive RepV (w : World) (ok : Nat → Prop) : Value → D → Prop where
  | int (k : IntKind) (n : Int) : RepV w ok (.int k n) (.int k n)
  | bool (b : Bool) : RepV w ok (.bool b) (.bool b)
  | str (s : List UInt8) : RepV w ok (.string ⟨s.toArray⟩) (.str s)
  | nil (base : Option Addr) (cap : Nat) : RepV w ok (.slice base 0 cap) (.list [])
  | list {b off len cap sz : Nat} {c : Array Value} {T : TypeId} {fz : Nat × Nat} {xs : List D} (vs : Nat → Nat → Value) :
      xs.length = len → len ≤ cap → ok b → w.heap[b]? = some (.cells c T fz) → (∀ x ∈ xs, x.fits sz) →
      (∀ (i j : Nat) (x y : D), xs[i]? = some x → x.cells[j]? = some y → c[off + i * sz + j]? = some (vs i j)) →
      (∀ (i j : Nat) (x y : D), xs[i]? = some x → x.cells[j]? = some y → RepV w ok (vs i j) y) →
      RepV w ok (.slice (some ⟨b, off, none⟩) len cap) (.list xs)
  | agg {vs : Array Value} {cs : List D} : vs.size = cs.length → (∀ (i : Nat) (v : Value) (y : D), vs[i]? = some v → cs[i]? = some y → RepV w ok v y) → RepV w ok (.agg vs) (.agg cs)

/-- From one world to a later one: the blocks that 'ok' names are as they were. -/
theorem RepV.mono {w w' : World} {ok ok' : Nat → Prop} {v : Value} {x : D} (h : RepV w ok v x)
    (hk : ∀ b, ok b → ok' b ∧ w'.heap[b]? = w.heap[b]?) : RepV w' ok' v x := by
  induction h with
  | int k n => exact .int k n
  | bool b => exact .bool b
  | str s => exact .str s
  | nil base cap => exact .nil base cap
  | list vs hl hcap ho hh hs hc _ ih => exact .list vs hl hcap (hk _ ho).1 ((hk _ ho).2.trans hh) hs hc ih
  | agg hs _ ih => exact .agg hs ih

theorem RepV.of_one {w w' : World} {ok ok' : Nat → Prop} {v : Value} {x : D} (h : RepV w ok v x) (hf : x.one = true) : RepV w' ok' v x := by
  cases h with
  | int k n => exact .int k n
  | bool b => exact .bool b
  | str s => exact .str s
  | nil base cap => simp [D.one] at hf
  | list vs hl _ ho hh hs hc _ => simp [D.one] at hf
  | agg hs _ => simp [D.one] at hf

theorem RepV.of_flat {w w' : World} {ok ok' : Nat → Prop} {v : Value} {x : D} (h : RepV w ok v x) (hf : x.flat = true) : RepV w' ok' v x := by
  cases h with
  | agg hs hc =>
    refine .agg hs fun i v y hv hy => (hc i v y hv hy).of_one ?_
    simp only [D.flat, List.all_eq_true] at hf
    exact hf y (List.mem_of_getElem? hy)
  | int k n => exact .int k n
  | bool b => exact .bool b
  | str s => exact .str s
  | nil base cap => simp [D.flat, D.one] at hf
  | list vs hl _ ho hh hs hc _ => simp [D.flat, D.one] at hf

/-- A later world in which all that was there is as it was. -/
structure ExtW (w w' : World) : Prop where
  os : w'.os = w.os
  tape : w'.tape = w.tape
  output : w'.output = w.output
  size : w.heap.size ≤ w'.heap.size
  block : ∀ b, b < w.heap.size → w'.heap[b]? = w.heap[b]?

theorem ExtW.refl (w : World) : ExtW w w := ⟨rfl, rfl, rfl, Nat.le_refl _, fun _ _ => rfl⟩
theorem ExtW.trans {a b c : World} (h : ExtW a b) (k : ExtW b c) : ExtW a c :=
  ⟨k.os.trans h.os, k.tape.trans h.tape, k.output.trans h.output, Nat.le_trans h.size k.size,
   fun i hi => (k.block i (Nat.lt_of_lt_of_le hi h.size)).trans (h.block i hi)⟩
theorem ExtW.alloc (w : World) (o : Obj) : ExtW w (w.alloc o) :=
  ⟨rfl, rfl, rfl, by simp, fun b hb => (by rw [World.alloc]; simp [Array.getElem?_push]; omega)⟩
theorem ExtW.drew (w : World) : ExtW w w.drew := ⟨rfl, rfl, rfl, Nat.le_refl _, fun _ _ => rfl⟩
theorem ExtW.drawn (w : World) (n : Nat) : ExtW w { w with drawn := n } := ⟨rfl, rfl, rfl, Nat.le_refl _, fun _ _ => rfl⟩

def callable (P : Program) (f : FuncId) : Bool :=
  match P.funcs[f]? with
  | some fn => !(fn.name == "runtime.NumGoroutine") && fn.body.isSome
  | none => false

/-- A function value that answers as 'S' says, in every later world, and writes nothing that was there. -/
def CloOk (P : Program) (w : World) (ok : Nat → Prop) (v : Value) (S : List D → (D → Prop) → Prop) : Prop :=
  ∃ f fst caps, v = .func (.func f) fst caps ∧ callable P f = true ∧
    ∀ (w' : World) (ok' : Nat → Prop), (∀ b, ok b → ok' b ∧ w'.heap[b]? = w.heap[b]?) → (∀ b, ok' b → b < w'.heap.size) →
      ∀ (ds : List D) (vs : List Value) (K : D → Prop), vs.length = ds.length →
        (∀ (i : Nat) v x, vs[i]? = some v → ds[i]? = some x → RepV w' ok' v x) → S ds K →
        Calls P f (fst ++ vs.toArray ++ caps) w' fun e w'' =>
          ∃ r x, e = .returned r ∧ x.flat = true ∧ RepV w'' (fun _ => False) r x ∧ K x ∧ ExtW w' w''

theorem CloOk.mono {P : Program} {w w' : World} {ok ok' : Nat → Prop} {v : Value} {S : List D → (D → Prop) → Prop} (h : CloOk P w ok v S)
    (hk : ∀ b, ok b → ok' b ∧ w'.heap[b]? = w.heap[b]?) : CloOk P w' ok' v S := by
  obtain ⟨f, fst, caps, hv, hcb, H⟩ := h
  refine ⟨f, fst, caps, hv, hcb, fun w2 ok2 h2 hs => H w2 ok2 (fun b hb => ?_) hs⟩
  obtain ⟨h3, h4⟩ := hk b hb
  obtain ⟨h5, h6⟩ := h2 b h3
  exact ⟨h5, h6.trans h4⟩

/-- The value 'v' is the abstract value. -/
inductive RepA (P : Program) (w : World) (ok : Nat → Prop) (loc : Nat → Option (Nat × Nat)) : Value → AV → Prop where
  | unk (v : Value) : RepA P w ok loc v .unk
  | d {v : Value} {x : D} : RepV w ok v x → RepA P w ok loc v (.d x)
  | nl : RepA P w ok loc (.slice none 0 0) .nl
  | ptr {id off b δ : Nat} : loc id = some (b, δ) → RepA P w ok loc (.pointer (some ⟨b, δ + off, none⟩)) (.ptr id off)
  | sl0 (base : Option Addr) (sz id off : Nat) : RepA P w ok loc (.slice base 0 0) (.sl sz id off 0)
  | sl {sz id off len b δ cap : Nat} {c : Array Value} {T : TypeId} {fz : Nat × Nat} : loc id = some (b, δ) → w.heap[b]? = some (.cells c T fz) →
      δ + (off + cap) * sz ≤ c.size → len ≤ cap → cap ≤ maxLen → RepA P w ok loc (.slice (some ⟨b, δ + off * sz, none⟩) len cap) (.sl sz id off len)
  | ep {sz id i off b δ : Nat} : loc id = some (b, δ) → RepA P w ok loc (.pointer (some ⟨b, δ + i * sz + off, none⟩)) (.ep sz id i off)
  | dp {b o : Nat} {c : Array Value} {T : TypeId} {fz : Nat × Nat} {cs : List AV} (u : Nat → Value) : ok b → w.heap[b]? = some (.cells c T fz) →
      (∀ (j : Nat) (y : AV), cs[j]? = some y → c[o + j]? = some (u j)) → (∀ (j : Nat) (y : AV), cs[j]? = some y → RepA P w ok loc (u j) y) →
      RepA P w ok loc (.pointer (some ⟨b, o, none⟩)) (.dp cs)
  | ag {vs : Array Value} {cs : List AV} : vs.size = cs.length → (∀ (i : Nat) v y, vs[i]? = some v → cs[i]? = some y → RepA P w ok loc v y) → RepA P w ok loc (.agg vs) (.ag cs)
  | tp {vs : Array Value} {cs : List AV} : vs.size = cs.length → (∀ (i : Nat) v y, vs[i]? = some v → cs[i]? = some y → RepA P w ok loc v y) → RepA P w ok loc (.tuple vs) (.tp cs)
  | fv {fn : Fn} {f c : Array Value} {first caps : List AV} : f.size = first.length → c.size = caps.length →
      (∀ (i : Nat) v y, f[i]? = some v → first[i]? = some y → RepA P w ok loc v y) → (∀ (i : Nat) v y, c[i]? = some v → caps[i]? = some y → RepA P w ok loc v y) →
      RepA P w ok loc (.func fn f c) (.fv fn first caps)
  | clo {v : Value} {S : List D → (D → Prop) → Prop} : CloOk P w ok v S → RepA P w ok loc v (.clo S)
  | mp {id b : Nat} : loc id = some (b, 0) → RepA P w ok loc (.map (some b)) (.mp id)
  | op {v : Value} {b : Bool} {x : AV} : (b = true → RepA P w ok loc v x) → (b = false → v = undef) → RepA P w ok loc v (.op b x)

/-- Shapes stay. -/
def Shapes (w w' : World) : Prop := ∀ (b : Nat) (c : Array Value) (T : TypeId) (fz : Nat × Nat), w.heap[b]? = some (.cells c T fz) → ∃ c' T' fz', w'.heap[b]? = some (.cells c' T' fz') ∧ c'.size = c.size

theorem Shapes.refl (w : World) : Shapes w w := fun _ c T fz h => ⟨c, T, fz, h, rfl⟩
theorem Shapes.of_ext {w w' : World} (h : ExtW w w') : Shapes w w' := fun b c T fz hb =>
  ⟨c, T, fz, (h.block b (by
    rcases Nat.lt_or_ge b w.heap.size with h' | h'
    · exact h'
    · rw [Array.getElem?_eq_none h'] at hb; cases hb)).trans hb, rfl⟩

section
variable {P : Program} {w w' : World} {ok ok' : Nat → Prop} {loc loc' : Nat → Option (Nat × Nat)}

/-- Later worlds; the ids lie where they lay, but for those that have been struck ('kill'). -/
theorem RepA.mono_kill {v : Value} {x : AV} (h : RepA P w ok loc v x) (hk : ∀ b, ok b → ok' b ∧ w'.heap[b]? = w.heap[b]?) (hs : Shapes w w')
    (k : Nat) (hl : ∀ id, id ≠ k → loc' id = loc id) : RepA P w' ok' loc' v (x.kill k) := by
  induction h with
  | unk v => exact .unk v
  | d h => exact .d (h.mono hk)
  | nl => exact .nl
  | @ptr id off b δ h =>
    simp only [AV.kill]; split
    · exact .unk _
    · rename_i hne; exact .ptr ((hl _ hne).trans h)
  | sl0 base sz id off =>
    simp only [AV.kill]; split
    · exact .unk _
    · exact .sl0 _ _ _ _
  | @sl sz id off len b δ cap c T fz h hh hcap hlen hm =>
    simp only [AV.kill]; split
    · exact .unk _
    · rename_i hne
      obtain ⟨c', T', fz', hc', he⟩ := hs _ _ _ _ hh
      exact .sl ((hl _ hne).trans h) hc' (by rw [he]; exact hcap) hlen hm
  | @ep sz id i off b δ h =>
    simp only [AV.kill]; split
    · exact .unk _
    · rename_i hne; exact .ep ((hl _ hne).trans h)
  | @dp b o c T fz cs u ho hh hc _ ih =>
    simp only [AV.kill, AV.killL_eq]
    refine .dp u (hk _ ho).1 ((hk _ ho).2.trans hh) (fun j y hy => ?_) (fun j y hy => ?_)
    · simp only [List.getElem?_map, Option.map_eq_some_iff] at hy; obtain ⟨y', hy', rfl⟩ := hy; exact hc j y' hy'
    · simp only [List.getElem?_map, Option.map_eq_some_iff] at hy; obtain ⟨y', hy', rfl⟩ := hy; exact ih j y' hy'
  | ag hs' _ ih =>
    simp only [AV.kill, AV.killL_eq]
    refine .ag (by simpa using hs') (fun i v y hv hy => ?_)
    simp only [List.getElem?_map, Option.map_eq_some_iff] at hy; obtain ⟨y', hy', rfl⟩ := hy; exact ih i v y' hv hy'
  | tp hs' _ ih =>
    simp only [AV.kill, AV.killL_eq]
    refine .tp (by simpa using hs') (fun i v y hv hy => ?_)
    simp only [List.getElem?_map, Option.map_eq_some_iff] at hy; obtain ⟨y', hy', rfl⟩ := hy; exact ih i v y' hv hy'
  | fv h1 h2 _ _ ih1 ih2 =>
    simp only [AV.kill, AV.killL_eq]
    refine .fv (by simpa using h1) (by simpa using h2) (fun i v y hv hy => ?_) (fun i v y hv hy => ?_)
    · simp only [List.getElem?_map, Option.map_eq_some_iff] at hy; obtain ⟨y', hy', rfl⟩ := hy; exact ih1 i v y' hv hy'
    · simp only [List.getElem?_map, Option.map_eq_some_iff] at hy; obtain ⟨y', hy', rfl⟩ := hy; exact ih2 i v y' hv hy'
  | clo h => exact .clo (h.mono hk)
  | @mp id b h =>
    simp only [AV.kill]; split
    · exact .unk _
    · rename_i hne; exact .mp ((hl _ hne).trans h)
  | op _ h0 ih => exact .op ih h0

theorem RepA.mono {v : Value} {x : AV} (h : RepA P w ok loc v x) (hk : ∀ b, ok b → ok' b ∧ w'.heap[b]? = w.heap[b]?) (hs : Shapes w w') :
    RepA P w' ok' loc v x := by
  induction h with
  | unk v => exact .unk v
  | d h => exact .d (h.mono hk)
  | nl => exact .nl
  | ptr h => exact .ptr h
  | sl0 base sz id off => exact .sl0 _ _ _ _
  | sl h hh hcap hlen hm =>
    obtain ⟨c', T', fz', hc', he⟩ := hs _ _ _ _ hh
    exact .sl h hc' (by rw [he]; exact hcap) hlen hm
  | ep h => exact .ep h
  | dp u ho hh hc _ ih => exact .dp u (hk _ ho).1 ((hk _ ho).2.trans hh) hc ih
  | ag hs' _ ih => exact .ag hs' ih
  | tp hs' _ ih => exact .tp hs' ih
  | fv h1 h2 _ _ ih1 ih2 => exact .fv h1 h2 ih1 ih2
  | clo h => exact .clo (h.mono hk)
  | mp h => exact .mp h
  | op _ h0 ih => exact .op ih h0
end

theorem RepA.mono_ext {P : Program} {w w' : World} {ok ok' : Nat → Prop} {loc loc' : Nat → Option (Nat × Nat)} {v : Value} {x : AV} (h : RepA P w ok loc v x) (hk : ∀ b, ok b → ok' b ∧ w'.heap[b]? = w.heap[b]?) (hs : Shapes w w')
    (hl : ∀ id q, loc id = some q → loc' id = some q) : RepA P w' ok' loc' v x := by
  induction h with
  | unk v => exact .unk v
  | d h => exact .d (h.mono hk)
  | nl => exact .nl
  | ptr h => exact .ptr (hl _ _ h)
  | sl0 base sz id off => exact .sl0 _ _ _ _
  | sl h hh hcap hlen hm =>
    obtain ⟨c', T', fz', hc', he⟩ := hs _ _ _ _ hh
    exact .sl (hl _ _ h) hc' (by rw [he]; exact hcap) hlen hm
  | ep h => exact .ep (hl _ _ h)
  | dp u ho hh hc _ ih => exact .dp u (hk _ ho).1 ((hk _ ho).2.trans hh) hc ih
  | ag hs' _ ih => exact .ag hs' ih
  | tp hs' _ ih => exact .tp hs' ih
  | fv h1 h2 _ _ ih1 ih2 => exact .fv h1 h2 ih1 ih2
  | clo h => exact .clo (h.mono hk)
  | mp h => exact .mp (hl _ _ h)
  | op _ h0 ih => exact .op ih h0

/-- Where a function was entered: the world, the blocks that its data may lie in, the blocks of its callers that it may write; where the numbers below 100 lie. -/
structure Ctx where
  w0 : World
  ok0 : Nat → Prop
  md : Nat → Prop
  floc : Nat → Option (Nat × Nat)
  zero : floc 0 = none
  lt : ∀ b, ok0 b → b < w0.heap.size
  apart : ∀ b, ok0 b → ¬ md b

structure HP where
  heap : Nat → Option Blk
  lock : Nat → Bool

/-- A frame's abstract state. -/
structure AS where
  sl : Nat → AV
  hp : HP
  used : Nat → Bool

def Live (h : HP) (id : Nat) : Prop := h.heap id ≠ none

def okOf (c : Ctx) (w : World) (h : HP) (loc : Nat → Option (Nat × Nat)) (b : Nat) : Prop :=
  b < w.heap.size ∧ (c.ok0 b ∨ c.w0.heap.size ≤ b ∨ c.md b) ∧ ∀ id δ, Live h id → loc id ≠ some (b, δ)

inductive RepB (P : Program) (w : World) (ok : Nat → Prop) (loc : Nat → Option (Nat × Nat)) (id : Nat) : Blk → Prop where
  | bx {b : Nat} {c : Array Value} {T : TypeId} {cs : List AV} : loc id = some (b, 0) → w.heap[b]? = some (.cells c T (0, 0)) → c.size = cs.length →
      (∀ (i : Nat) v y, c[i]? = some v → cs[i]? = some y → RepA P w ok loc v y) → RepB P w ok loc id (.bx cs)
  | ar0 (sz : Nat) : loc id = none → RepB P w ok loc id (.ar sz [])
  | ar {b δ : Nat} {c : Array Value} {T : TypeId} {sz : Nat} {xs : List D} (vs : Nat → Nat → Value) : loc id = some (b, δ) → w.heap[b]? = some (.cells c T (0, 0)) →
      δ + xs.length * sz ≤ c.size → (∀ x ∈ xs, x.fits sz) →
      (∀ (i j : Nat) (x y : D), xs[i]? = some x → x.cells[j]? = some y → c[δ + i * sz + j]? = some (vs i j)) →
      (∀ (i j : Nat) (x y : D), xs[i]? = some x → x.cells[j]? = some y → RepV w ok (vs i j) y) →
      RepB P w ok loc id (.ar sz xs)
  | mb {b clock : Nat} {ents : Array MapEntry} {es : List (D × D)} : loc id = some (b, 0) → w.heap[b]? = some (.map ents clock) → ents.size = es.length →
      (∀ (i : Nat) e p, ents[i]? = some e → es[i]? = some p → RepV w ok e.key p.1 ∧ RepV w ok e.val p.2) → RepB P w ok loc id (.mb es)

structure ExtC (c : Ctx) (w : World) : Prop where
  os : w.os = c.w0.os
  tape : w.tape = c.w0.tape
  output : w.output = c.w0.output
  size : c.w0.heap.size ≤ w.heap.size
  block : ∀ b, b < c.w0.heap.size → ¬ c.md b → w.heap[b]? = c.w0.heap[b]?
  shape : Shapes c.w0 w

theorem Shapes.trans {a b c : World} (h : Shapes a b) (k : Shapes b c) : Shapes a c := fun n x T fz hx => by
  obtain ⟨x1, T1, f1, h1, e1⟩ := h n x T fz hx
  obtain ⟨x2, T2, f2, h2, e2⟩ := k n x1 T1 f1 h1
  exact ⟨x2, T2, f2, h2, e2.trans e1⟩

/-- The core of 'Rep': all but the existence of 'loc'. -/
structure RepL (P : Program) (c : Ctx) (σ : AS) (ρ : Nat → Value) (w : World) (vs : List Value) (xs : List AV) (loc : Nat → Option (Nat × Nat)) : Prop where
  slots : ∀ s, RepA P w (okOf c w σ.hp loc) loc (ρ s) (σ.sl s)
  len : vs.length = xs.length
  vals : ∀ (i : Nat) v x, vs[i]? = some v → xs[i]? = some x → RepA P w (okOf c w σ.hp loc) loc v x
  heap : ∀ id blk, σ.hp.heap id = some blk → RepB P w (okOf c w σ.hp loc) loc id blk
  inj : ∀ id id' b δ δ', Live σ.hp id → Live σ.hp id' → loc id = some (b, δ) → loc id' = some (b, δ') → id = id'
  own : ∀ id b δ, Live σ.hp id → loc id = some (b, δ) → b < w.heap.size ∧ ¬ c.ok0 b ∧ (c.w0.heap.size ≤ b ∨ c.md b)
  ext : ExtC c w
  fix : ∀ id, id < 100 → loc id = c.floc id
  dom : ∀ id, σ.used id = false → loc id = none
  liveU : ∀ id, Live σ.hp id → σ.used id = true

/-- The frame (slots ρ, world w) is the abstract state; and the values 'vs' are 'xs'. -/
def Rep (P : Program) (c : Ctx) (σ : AS) (ρ : Nat → Value) (w : World) (vs : List Value) (xs : List AV) : Prop :=
  ∃ loc, RepL P c σ ρ w vs xs loc

def upd {α : Type} (f : Nat → α) (k : Nat) (v : α) : Nat → α := fun s => if s = k then v else f s

theorem upd_apply {α : Type} (f : Nat → α) (k : Nat) (v : α) (s : Nat) : upd f k v s = if s = k then v else f s := rfl

def AS.put (σ : AS) (dst : Option Nat) (x : AV) : AS :=
  match dst with
  | some t => { σ with sl := upd σ.sl t x }
  | none => σ

end Go.Fw
