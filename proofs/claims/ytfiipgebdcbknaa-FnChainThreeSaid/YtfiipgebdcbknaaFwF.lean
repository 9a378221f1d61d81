/- Operations that make or write memory: variables. -/
import Derived.Test.YtfiipgebdcbknaaFwE
set_option linter.unusedSimpArgs false
set_option linter.unusedVariables false
namespace Go.Fw
open Go

def AV.cell1 : AV → Bool
  | .d x => !x.isAgg
  | .nl | .ptr _ _ | .sl _ _ _ _ | .ep _ _ _ _ | .dp _ | .fv _ _ _ | .clo _ | .mp _ => true
  | _ => false

/-- The cells of a value. -/
def cellsA : AV → Option (List AV)
  | .unk => none
  | .tp _ => none
  | .op _ _ => none
  | .ag cs => some cs
  | .d (.agg ds) => some (ds.map .d)
  | x => some [x]

def setCells (off : Nat) : List AV → List AV → List AV
  | [], cs => cs
  | x :: r, cs => setCells (off + 1) r (cs.set off x)

def splice (c : Array Value) (o : Nat) (vs : List Value) : Array Value := (c.toList.take o ++ vs ++ c.toList.drop (o + vs.length)).toArray

theorem splice_size {c : Array Value} {o : Nat} {vs : List Value} (h : o + vs.length ≤ c.size) : (splice c o vs).size = c.size := by
  simp only [splice, List.size_toArray, List.length_append, List.length_take, List.length_drop, Array.length_toList]
  omega

theorem splice_get {c : Array Value} {o : Nat} {vs : List Value} (h : o + vs.length ≤ c.size) (i : Nat) :
    (splice c o vs)[i]? = if o ≤ i ∧ i < o + vs.length then vs[i - o]? else c[i]? := by
  simp only [splice, List.getElem?_toArray, List.append_assoc, List.getElem?_append, List.length_take, Array.length_toList, List.getElem?_take, List.getElem?_drop]
  have hm : min o c.size = o := by omega
  rw [hm]
  by_cases h1 : i < o
  · rw [if_pos h1, if_pos h1, if_neg (by omega), Array.getElem?_toList]
  · rw [if_neg h1]
    by_cases h2 : i - o < vs.length
    · rw [if_pos h2, if_pos (by omega)]
    · rw [if_neg h2, if_neg (by omega), Array.getElem?_toList]
      congr 1; omega

theorem setCells_length : ∀ (ys : List AV) (off : Nat) (cs : List AV), (setCells off ys cs).length = cs.length
  | [], _, _ => rfl
  | x :: r, off, cs => by simp [setCells, setCells_length r]

theorem setCells_get : ∀ (ys : List AV) (off : Nat) (cs : List AV), off + ys.length ≤ cs.length → ∀ i : Nat,
    (setCells off ys cs)[i]? = if off ≤ i ∧ i < off + ys.length then ys[i - off]? else cs[i]?
  | [], off, cs, _, i => by simp [setCells]; omega
  | x :: r, off, cs, h, i => by
    simp only [List.length_cons] at h
    rw [setCells, setCells_get r (off + 1) (cs.set off x) (by simp; omega) i]
    simp only [List.length_cons]
    by_cases h1 : off + 1 ≤ i ∧ i < off + 1 + r.length
    · rw [if_pos h1, if_pos (by omega), show i - off = (i - (off + 1)) + 1 by omega, List.getElem?_cons_succ]
    · rw [if_neg h1]
      by_cases h2 : i = off
      · subst h2
        rw [if_pos (by omega), Nat.sub_self, List.getElem?_cons_zero, List.getElem?_set_self (by omega)]
      · rw [if_neg (by omega), List.getElem?_set_ne (by omega)]

section
variable {P : Program} {c : Ctx} {σ : AS} {ρ : Nat → Value} {w : World} {vs : List Value} {xs : List AV} {loc : Nat → Option (Nat × Nat)} {ok : Nat → Prop}

theorem one_cells {v : Value} (h : v.oneCell' = true) : v.cells = #[v] := by cases v <;> first | rfl | (simp [Value.oneCell'] at h)

theorem RepV.one1 {v : Value} {x : D} (h : RepV w ok v x) (hx : x.isAgg = false) : v.oneCell' = true := by
  cases h <;> first | rfl | (simp [D.isAgg] at hx)

theorem RepA.one1 {v : Value} {x : AV} (h : RepA P w ok loc v x) (hx : x.cell1 = true) : v.oneCell' = true := by
  cases h with
  | d h => exact h.one1 (by simpa [AV.cell1] using hx)
  | clo h => obtain ⟨f, fst, caps, rfl, _⟩ := h; rfl
  | unk v => simp [AV.cell1] at hx
  | ag h1 h2 => simp [AV.cell1] at hx
  | tp h1 h2 => simp [AV.cell1] at hx
  | op h _ => simp [AV.cell1] at hx
  | _ => rfl

theorem cellsA_rep {v : Value} {x : AV} {ys : List AV} (h : RepA P w ok loc v x) (hx : cellsA x = some ys) :
    v.cells.size = ys.length ∧ ∀ (i : Nat) u y, v.cells[i]? = some u → ys[i]? = some y → RepA P w ok loc u y := by
  have one : v.oneCell' = true → ys = [x] → v.cells.size = ys.length ∧ ∀ (i : Nat) u y, v.cells[i]? = some u → ys[i]? = some y → RepA P w ok loc u y := by
    intro h1 h2
    rw [one_cells h1, h2]
    refine ⟨rfl, fun i u y hu hy => ?_⟩
    cases i with
    | zero => simp at hu hy; subst hu; subst hy; exact h
    | succ i => simp at hu
  cases x with
  | unk => cases hx
  | tp cs => cases hx
  | op b x => cases hx
  | ag cs =>
    simp only [cellsA, Option.some.injEq] at hx; subst hx
    cases h with | ag h1 h2 => exact ⟨h1, h2⟩
  | d x =>
    cases x with
    | agg ds =>
      simp only [cellsA, Option.some.injEq] at hx; subst hx
      cases h with | d h =>
      cases h with | agg h1 h2 =>
      refine ⟨by simpa [Value.cells] using h1, fun i u y hu hy => ?_⟩
      simp only [List.getElem?_map, Option.map_eq_some_iff] at hy
      obtain ⟨y', hy', rfl⟩ := hy
      exact .d (h2 i u y' hu hy')
    | int k n => simp only [cellsA, Option.some.injEq] at hx; exact one (h.one1 rfl) hx.symm
    | bool b => simp only [cellsA, Option.some.injEq] at hx; exact one (h.one1 rfl) hx.symm
    | str s => simp only [cellsA, Option.some.injEq] at hx; exact one (h.one1 rfl) hx.symm
    | list s => simp only [cellsA, Option.some.injEq] at hx; exact one (h.one1 rfl) hx.symm
  | nl => simp only [cellsA, Option.some.injEq] at hx; exact one (h.one1 rfl) hx.symm
  | ptr => simp only [cellsA, Option.some.injEq] at hx; exact one (h.one1 rfl) hx.symm
  | sl => simp only [cellsA, Option.some.injEq] at hx; exact one (h.one1 rfl) hx.symm
  | ep => simp only [cellsA, Option.some.injEq] at hx; exact one (h.one1 rfl) hx.symm
  | dp => simp only [cellsA, Option.some.injEq] at hx; exact one (h.one1 rfl) hx.symm
  | fv => simp only [cellsA, Option.some.injEq] at hx; exact one (h.one1 rfl) hx.symm
  | clo => simp only [cellsA, Option.some.injEq] at hx; exact one (h.one1 rfl) hx.symm
  | mp => simp only [cellsA, Option.some.injEq] at hx; exact one (h.one1 rfl) hx.symm

/-- A value written into cells that are there. -/
theorem run_storeVar {t : TypeId} {a : Bool} {n : Nat} {z : List Value} (ht : tI P t = some (a, n, z)) {b o : Nat} {cur : Array Value} {T : TypeId}
    (hb : w.heap[b]? = some (.cells cur T (0, 0))) {v : Value} {x : AV} {ys : List AV} (hx : RepA P w ok loc v x) (hc : cellsA x = some ys) (hn : ys.length = n)
    (h1 : ys.all AV.cell1 = true) (hfit : o + n ≤ cur.size) :
    (Instr.storeAt t (.pointer (some ⟨b, o, none⟩)) v).run P w = .ok () (w.setRow b (splice cur o v.cells.toList)) := by
  obtain ⟨_, hsz, _⟩ := tI_runs (w := w) ht
  obtain ⟨hl, hcells⟩ := cellsA_rep hx hc
  have hone : ∀ u ∈ v.cells.toList, u.oneCell' = true := fun u hu => by
    obtain ⟨i, hi, rfl⟩ := List.getElem_of_mem hu
    simp only [Array.length_toList] at hi
    rw [Array.getElem_toList]
    rw [List.all_eq_true] at h1
    exact (hcells i _ ys[i] (Array.getElem?_eq_getElem hi) (List.getElem?_eq_getElem (by omega))).one1 (h1 _ (List.getElem_mem _))
  have hst := run_storeCells_at P b o T v.cells.toList 0 cur w hb (by simp; omega) hone
  simp only [Nat.add_zero] at hst
  simp only [Instr.storeAt, Instr.sureAddr, Sem.run_bind, Sem.run_pure, Result.andThen_ok, storeVar, hsz]
  rw [if_neg (by simp; omega)]
  simp only [Sem.run_bind, Sem.run_pure, Result.andThen_ok, hst, splice]

theorem setRow_same {b : Nat} {cur cur' : Array Value} {T : TypeId} (hb : w.heap[b]? = some (.cells cur T (0, 0))) : (w.setRow b cur').heap[b]? = some (.cells cur' T (0, 0)) := by
  simp [World.setRow, Array.getElem?_modify, hb]

theorem setRow_other {b n : Nat} {cur' : Array Value} (h : n ≠ b) : (w.setRow b cur').heap[n]? = w.heap[n]? := by
  simp [World.setRow, Array.getElem?_modify, Ne.symm h]

theorem setRow_shapes {b : Nat} {cur cur' : Array Value} {T : TypeId} (hb : w.heap[b]? = some (.cells cur T (0, 0))) (hs : cur'.size = cur.size) : Shapes w (w.setRow b cur') := fun n c T' fz h => by
  by_cases hn : n = b
  · subst hn
    rw [hb] at h
    simp only [Option.some.injEq, Obj.cells.injEq] at h
    obtain ⟨rfl, rfl, rfl⟩ := h
    exact ⟨cur', T, (0, 0), setRow_same hb, hs⟩
  · exact ⟨c, T', fz, by rw [setRow_other hn, h], rfl⟩

theorem setRow_size (b : Nat) (cur' : Array Value) : (w.setRow b cur').heap.size = w.heap.size := by simp [World.setRow]

/-- A store into a variable of the frame's own. -/
theorem RepL.store (h : RepL P c σ ρ w vs xs loc) {id off : Nat} {cs : List AV} (hid : σ.hp.heap id = some (.bx cs)) {va v : Value} (ha : RepA P w (okOf c w σ.hp loc) loc va (.ptr id off))
    {t : TypeId} {ag : Bool} {n : Nat} {z : List Value} (ht : tI P t = some (ag, n, z)) {x : AV} {ys : List AV} (hx : RepA P w (okOf c w σ.hp loc) loc v x) (hc : cellsA x = some ys) (hn : ys.length = n)
    (h1 : ys.all AV.cell1 = true) (hfit : off + n ≤ cs.length) :
    ∃ w', (Instr.storeAt t va v).run P w = .ok () w' ∧ RepL P c { σ with hp := σ.hp.set id (.bx (setCells off ys cs)) } ρ w' vs xs loc := by
  cases ha with | @ptr _ _ b δ hl =>
  have hlive : Live σ.hp id := by simp [Live, hid]
  cases h.heap id _ hid with | @bx b' cur T _ hl' hh hz hcs =>
  rw [hl] at hl'; simp only [Option.some.injEq, Prod.mk.injEq] at hl'; obtain ⟨rfl, rfl⟩ := hl'
  simp only [Nat.zero_add]
  obtain ⟨e1, e2⟩ := cellsA_rep hx hc
  have hsp : off + v.cells.toList.length ≤ cur.size := by simp; omega
  refine ⟨_, run_storeVar ht hh hx hc hn h1 (by omega), ?_⟩
  refine h.write id b 0 (.bx (setCells off ys cs)) hlive hl (setRow_shapes hh (splice_size hsp)) ⟨rfl, rfl, rfl⟩ (setRow_size b _) (fun n hn => setRow_other hn) fun hk => ?_
  refine .bx hl (setRow_same hh) (by rw [splice_size hsp, setCells_length, hz]) fun i u y hu hy => ?_
  rw [splice_get hsp] at hu
  rw [setCells_get ys off cs (by omega)] at hy
  have hsh := setRow_shapes (cur' := splice cur off v.cells.toList) hh (splice_size hsp)
  by_cases hi : off ≤ i ∧ i < off + ys.length
  · rw [if_pos hi] at hy
    rw [if_pos (by simp; omega)] at hu
    rw [Array.getElem?_toList] at hu
    exact (e2 _ _ _ hu hy).mono hk hsh
  · rw [if_neg hi] at hy
    rw [if_neg (by simp; omega)] at hu
    exact (hcs i u y hu hy).mono hk hsh

/-- The cells of a new variable. -/
theorem RepL.newBox (h : RepL P c σ ρ w vs xs loc) (k : Nat) (hf : σ.free k) (T : TypeId) {cv : Array Value} {ys : List AV} (hl : cv.size = ys.length)
    (hc : ∀ (i : Nat) u y, cv[i]? = some u → ys[i]? = some y → RepA P w (okOf c w σ.hp loc) loc u y) :
    RepL P c (σ.new k (.bx ys)) ρ (w.alloc (.cells cv T)) vs xs (upd loc k (some (w.heap.size, 0))) := by
  refine h.new k hf _ _ 0 (.bx (by simp [upd]) (heap_alloc_new w _) hl fun i u y hu hy => ?_)
  refine (hc i u y hu hy).mono_ext (ok_new h hf _ 0) (Shapes.of_ext (ExtW.alloc w _)) fun id q hq => ?_
  have : id ≠ k := fun he => by rw [he, (h.free_heap hf).2] at hq; cases hq
  simp [upd, this, hq]

theorem run_box {t : TypeId} {v : Value} : (Instr.box t v).run P w = .ok (.pointer (some ⟨w.heap.size, 0, none⟩)) (w.alloc (.cells v.cells t)) := by
  simp [Instr.box, newVar, newRow]

theorem run_alloc {t : TypeId} {a : Bool} {n : Nat} {z : List Value} (ht : tI P t = some (a, n, z)) :
    (Instr.alloc t true (.tuple #[])).run P w = .ok (.pointer (some ⟨w.heap.size, 0, none⟩)) (w.alloc (.cells z.toArray t)) := by
  obtain ⟨_, _, v, hv, rfl⟩ := tI_runs (w := w) ht
  simp [Instr.alloc, hv, newVar, newRow]

theorem RepL.alloc (h : RepL P c σ ρ w vs xs loc) (k : Nat) (hf : σ.free k) {t : TypeId} {a : Bool} {n : Nat} {z : List Value} (ht : tI P t = some (a, n, z)) :
    ∃ v w' loc', (Instr.alloc t true (.tuple #[])).run P w = .ok v w' ∧ RepL P c (σ.new k (.bx (z.map ofVal))) ρ w' vs xs loc' ∧
      RepA P w' (okOf c w' (σ.new k (.bx (z.map ofVal))).hp loc') loc' v (.ptr k 0) := by
  refine ⟨.pointer (some ⟨w.heap.size, 0 + 0, none⟩), _, upd loc k (some (w.heap.size, 0)), run_alloc ht, h.newBox k hf t (by simp) fun i u y hu hy => ?_, .ptr (by simp [upd])⟩
  simp only [List.getElem?_toArray, List.getElem?_map] at hu hy
  rw [hu] at hy; simp only [Option.map_some, Option.some.injEq] at hy; subst hy
  exact .ofVal u

theorem RepL.box (h : RepL P c σ ρ w vs xs loc) (k : Nat) (hf : σ.free k) (t : TypeId) {v : Value} {x : AV} {ys : List AV} (hx : RepA P w (okOf c w σ.hp loc) loc v x) (hc : cellsA x = some ys) :
    ∃ u w' loc', (Instr.box t v).run P w = .ok u w' ∧ RepL P c (σ.new k (.bx ys)) ρ w' vs xs loc' ∧
      RepA P w' (okOf c w' (σ.new k (.bx ys)).hp loc') loc' u (.ptr k 0) := by
  obtain ⟨e1, e2⟩ := cellsA_rep hx hc
  exact ⟨.pointer (some ⟨w.heap.size, 0 + 0, none⟩), _, upd loc k (some (w.heap.size, 0)), run_box, h.newBox k hf t e1 e2, .ptr (by simp [upd])⟩

/-- A new variable that is never written: its cells are data from the first. -/
theorem RepL.boxDp (h : RepL P c σ ρ w vs xs loc) (t : TypeId) {v : Value} {x : AV} {ys : List AV} (hx : RepA P w (okOf c w σ.hp loc) loc v x) (hc : cellsA x = some ys) :
    ∃ u w', (Instr.box t v).run P w = .ok u w' ∧ RepL P c σ ρ w' vs xs loc ∧ RepA P w' (okOf c w' σ.hp loc) loc u (.dp ys) := by
  obtain ⟨e1, e2⟩ := cellsA_rep hx hc
  have hE := ExtW.alloc w (.cells v.cells t)
  refine ⟨_, _, run_box, h.ext' hE, ?_⟩
  have hlt : ∀ j, ∃ u, ∀ y, ys[j]? = some y → v.cells[j]? = some u := fun j => by
    by_cases hj : j < ys.length
    · exact ⟨v.cells[j]'(by omega), fun y _ => Array.getElem?_eq_getElem _⟩
    · exact ⟨undef, fun y hy => by rw [List.getElem?_eq_none (by omega)] at hy; cases hy⟩
  refine .dp (fun j => (hlt j).choose) ⟨by simp, .inr (.inl h.ext.size), fun id δ hl he => ?_⟩ (heap_alloc_new w _) (fun j y hy => by rw [Nat.zero_add]; exact (hlt j).choose_spec y hy) fun j y hy => ?_
  · have := (h.own id _ δ hl he).1; omega
  · exact (e2 j _ y ((hlt j).choose_spec y hy) hy).mono (okOf.step hE) (Shapes.of_ext hE)

end
end Go.Fw
