/- The abstract state over steps of the world: later worlds, new blocks, cells that are written. -/
import Derived.Test.YtfiipgebdcbknaaFwA
set_option linter.unusedSimpArgs false
set_option linter.unusedVariables false
namespace Go.Fw
open Go

section
variable {P : Program} {c : Ctx} {σ : AS} {ρ : Nat → Value} {w w' : World} {vs : List Value} {xs : List AV} {loc : Nat → Option (Nat × Nat)}

theorem ExtC.step (h : ExtC c w) (hx : ExtW w w') : ExtC c w' :=
  ⟨hx.os.trans h.os, hx.tape.trans h.tape, hx.output.trans h.output, Nat.le_trans h.size hx.size,
   fun b hb hm => (hx.block b (Nat.lt_of_lt_of_le hb h.size)).trans (h.block b hb hm), h.shape.trans (Shapes.of_ext hx)⟩

theorem okOf.step {h : HP} (hx : ExtW w w') (b : Nat) (hb : okOf c w h loc b) : okOf c w' h loc b ∧ w'.heap[b]? = w.heap[b]? :=
  ⟨⟨Nat.lt_of_lt_of_le hb.1 hx.size, hb.2⟩, hx.block b hb.1⟩

theorem RepB.mono {ok ok' : Nat → Prop} {id : Nat} {blk : Blk} (h : RepB P w ok loc id blk)
    (hk : ∀ b, ok b → ok' b ∧ w'.heap[b]? = w.heap[b]?) (hs : Shapes w w') (hid : ∀ b δ, loc id = some (b, δ) → w'.heap[b]? = w.heap[b]?) :
    RepB P w' ok' loc id blk := by
  cases h with
  | bx hl hh hz hc => exact .bx hl ((hid _ _ hl).trans hh) hz fun i v y hv hy => (hc i v y hv hy).mono hk hs
  | ar0 sz hl => exact .ar0 sz hl
  | ar vs hl hh hz hsz hc hv => exact .ar vs hl ((hid _ _ hl).trans hh) hz hsz hc fun i j x y hx hy => (hv i j x y hx hy).mono hk
  | mb hl hh hz hc => exact .mb hl ((hid _ _ hl).trans hh) hz fun i e p he hp => ⟨(hc i e p he hp).1.mono hk, (hc i e p he hp).2.mono hk⟩

theorem RepB.mono_kill {ok ok' : Nat → Prop} {loc' : Nat → Option (Nat × Nat)} {id k : Nat} {blk : Blk} (h : RepB P w ok loc id blk) (hne : id ≠ k)
    (hk : ∀ b, ok b → ok' b ∧ w'.heap[b]? = w.heap[b]?) (hs : Shapes w w') (hl' : ∀ id, id ≠ k → loc' id = loc id)
    (hid : ∀ b δ, loc id = some (b, δ) → w'.heap[b]? = w.heap[b]?) :
    RepB P w' ok' loc' id (blk.kill k) := by
  cases h with
  | @bx b c T cs hl hh hz hc =>
    refine .bx ((hl' _ hne).trans hl) ((hid _ _ hl).trans hh) (by simpa [AV.killL_eq] using hz) fun i v y hv hy => ?_
    rw [AV.killL_eq] at hy
    simp only [List.getElem?_map, Option.map_eq_some_iff] at hy
    obtain ⟨y', hy', rfl⟩ := hy
    exact (hc i v y' hv hy').mono_kill hk hs k hl'
  | ar0 sz hl => exact .ar0 sz ((hl' _ hne).trans hl)
  | ar vs hl hh hz hsz hc hv => exact .ar vs ((hl' _ hne).trans hl) ((hid _ _ hl).trans hh) hz hsz hc fun i j x y hx hy => (hv i j x y hx hy).mono hk
  | mb hl hh hz hc => exact .mb ((hl' _ hne).trans hl) ((hid _ _ hl).trans hh) hz fun i e p he hp => ⟨(hc i e p he hp).1.mono hk, (hc i e p he hp).2.mono hk⟩

/-- A later world in which nothing that was there has turned. -/
theorem RepL.ext' (h : RepL P c σ ρ w vs xs loc) (hx : ExtW w w') : RepL P c σ ρ w' vs xs loc where
  slots s := (h.slots s).mono (okOf.step hx) (Shapes.of_ext hx)
  len := h.len
  vals i v x hv hxx := (h.vals i v x hv hxx).mono (okOf.step hx) (Shapes.of_ext hx)
  heap id blk hb := (h.heap id blk hb).mono (okOf.step hx) (Shapes.of_ext hx) fun b δ hl => hx.block b (h.own id b δ (by simp [Live, hb]) hl).1
  inj := h.inj
  own id b δ hl he := let ⟨h1, h2, h3⟩ := h.own id b δ hl he; ⟨Nat.lt_of_lt_of_le h1 hx.size, h2, h3⟩
  ext := h.ext.step hx
  fix := h.fix
  dom := h.dom
  liveU := h.liveU

theorem Rep.ext' (h : Rep P c σ ρ w vs xs) (hx : ExtW w w') : Rep P c σ ρ w' vs xs := let ⟨l, h⟩ := h; ⟨l, h.ext' hx⟩

theorem RepL.put (h : RepL P c σ ρ w vs xs loc) (t : Nat) {v : Value} {x : AV} (hv : RepA P w (okOf c w σ.hp loc) loc v x) :
    RepL P c (σ.put (some t) x) (upd ρ t v) w vs xs loc where
  slots s := by
    simp only [AS.put, upd]
    by_cases hs : s = t
    · simp only [hs, if_true]; exact hv
    · simp only [hs, if_false]; exact h.slots s
  len := h.len
  vals := h.vals
  heap := h.heap
  inj := h.inj
  own := h.own
  ext := h.ext
  fix := h.fix
  dom := h.dom
  liveU := h.liveU

theorem RepL.vals0 (h : RepL P c σ ρ w vs xs loc) : RepL P c σ ρ w [] [] loc :=
  ⟨h.slots, rfl, fun i v x hv => by simp at hv, h.heap, h.inj, h.own, h.ext, h.fix, h.dom, h.liveU⟩

theorem RepL.setVals (h : RepL P c σ ρ w vs xs loc) {vs' : List Value} {xs' : List AV} (hl : vs'.length = xs'.length)
    (hv : ∀ (i : Nat) v x, vs'[i]? = some v → xs'[i]? = some x → RepA P w (okOf c w σ.hp loc) loc v x) : RepL P c σ ρ w vs' xs' loc :=
  ⟨h.slots, hl, hv, h.heap, h.inj, h.own, h.ext, h.fix, h.dom, h.liveU⟩

theorem RepL.setVal1 (h : RepL P c σ ρ w vs xs loc) {v : Value} {x : AV} (hv : RepA P w (okOf c w σ.hp loc) loc v x) : RepL P c σ ρ w [v] [x] loc :=
  h.setVals rfl fun i v' x' h1 h2 => by
    cases i with
    | zero => simp at h1 h2; subst h1; subst h2; exact hv
    | succ i => simp at h1

theorem RepL.val1 {v : Value} {x : AV} (h : RepL P c σ ρ w [v] [x] loc) : RepA P w (okOf c w σ.hp loc) loc v x := h.vals 0 v x rfl rfl

/-- The state with a block of the frame's own, number 'k', struck wherever it is named. -/
def HP.kill (k : Nat) (h : HP) : HP := { h with heap := fun id => if id = k then none else (h.heap id).map (Blk.kill k) }
def HP.set (h : HP) (k : Nat) (b : Blk) : HP := { h with heap := upd h.heap k (some b) }
def HP.drop (h : HP) (k : Nat) : HP := { h with heap := upd h.heap k none }
def killS (k : Nat) (f : Nat → AV) : Nat → AV := fun s => (f s).kill k
/-- A block put in the place of block 'k': what named that is struck. -/
def AS.renew (σ : AS) (k : Nat) (b : Blk) : AS := { sl := killS k σ.sl, hp := (σ.hp.kill k).set k b, used := σ.used }
/-- A new block under a number that is free. -/
def AS.new (σ : AS) (k : Nat) (b : Blk) : AS := { sl := σ.sl, hp := σ.hp.set k b, used := upd σ.used k true }
/-- Is the number free? -/
def AS.free (σ : AS) (k : Nat) : Prop := 100 ≤ k ∧ σ.used k = false

theorem RepL.free_heap (h : RepL P c σ ρ w vs xs loc) {k : Nat} (hf : σ.free k) : σ.hp.heap k = none ∧ loc k = none := by
  refine ⟨?_, h.dom k hf.2⟩
  cases hh : σ.hp.heap k with
  | none => rfl
  | some b => have := h.liveU k (by simp [Live, hh]); rw [hf.2] at this; cases this

theorem ok_renew {k : Nat} {b : Blk} (h : RepL P c σ ρ w vs xs loc) (o : Obj) (δ : Nat) (n : Nat) (hn : okOf c w σ.hp loc n) :
    okOf c (w.alloc o) ((σ.hp.kill k).set k b) (upd loc k (some (w.heap.size, δ))) n ∧ (w.alloc o).heap[n]? = w.heap[n]? := by
  obtain ⟨h1, h2, h3⟩ := hn
  refine ⟨⟨by simp; omega, h2, fun id δ' hl => ?_⟩, (ExtW.alloc w o).block n h1⟩
  by_cases hid : id = k
  · subst hid; simp [upd]; omega
  · simp only [upd, hid, if_false]
    refine h3 id δ' ?_
    simp only [Live, HP.set, HP.kill, upd, hid, if_false] at hl ⊢
    intro he; apply hl; simp [he]

/-- A new block: the state afterwards, the new block's content being known in the new world. -/
theorem RepL.renew (h : RepL P c σ ρ w vs xs loc) (k : Nat) (h100 : 100 ≤ k) (hku : σ.used k = true) (b : Blk) (o : Obj) (δ : Nat)
    (hb : RepB P (w.alloc o) (okOf c (w.alloc o) ((σ.hp.kill k).set k b) (upd loc k (some (w.heap.size, δ)))) (upd loc k (some (w.heap.size, δ))) k b) :
    RepL P c (σ.renew k b) ρ (w.alloc o) vs (xs.map (AV.kill k)) (upd loc k (some (w.heap.size, δ))) := by
  have hl' : ∀ id, id ≠ k → upd loc k (some (w.heap.size, δ)) id = loc id := fun id hne => by simp [upd, hne]
  have live : ∀ id, id ≠ k → Live ((σ.hp.kill k).set k b) id → Live σ.hp id := fun id hne hl => by
    simp only [Live, HP.set, HP.kill, upd, hne, if_false] at hl ⊢
    intro he; apply hl; simp [he]
  refine ⟨fun s => (h.slots s).mono_kill (ok_renew h o δ) (Shapes.of_ext (ExtW.alloc w o)) k hl', by simpa using h.len, fun i v x hv hx => ?_, fun id blk hblk => ?_, ?_, ?_, h.ext.step (ExtW.alloc w o), fun id hid => by rw [hl' id (by omega)]; exact h.fix id hid, fun id hid => ?_, fun id hl => ?_⟩
  · simp only [List.getElem?_map, Option.map_eq_some_iff] at hx
    obtain ⟨x', hx', rfl⟩ := hx
    exact (h.vals i v x' hv hx').mono_kill (ok_renew h o δ) (Shapes.of_ext (ExtW.alloc w o)) k hl'
  · by_cases hid : id = k
    · subst hid
      simp only [AS.renew, HP.set, upd, if_true, Option.some.injEq] at hblk
      subst hblk; exact hb
    · simp only [AS.renew, HP.set, HP.kill, upd, hid, if_false, Option.map_eq_some_iff] at hblk
      obtain ⟨blk', hblk', rfl⟩ := hblk
      refine (h.heap id blk' hblk').mono_kill hid (ok_renew h o δ) (Shapes.of_ext (ExtW.alloc w o)) hl' fun b' δ' he => ?_
      exact (ExtW.alloc w o).block b' (h.own id b' δ' (by simp [Live, hblk']) he).1
  · intro id id' b' δ1 δ2 hl1 hl2 he1 he2
    by_cases h1 : id = k <;> by_cases h2 : id' = k
    · rw [h1, h2]
    · simp only [AS.renew] at hl2
      have := (h.own id' b' δ2 (live id' h2 hl2) (by rwa [hl' _ h2] at he2)).1
      rw [h1] at he1; simp [upd] at he1; omega
    · simp only [AS.renew] at hl1
      have := (h.own id b' δ1 (live id h1 hl1) (by rwa [hl' _ h1] at he1)).1
      rw [h2] at he2; simp [upd] at he2; omega
    · exact h.inj id id' b' δ1 δ2 (live id h1 hl1) (live id' h2 hl2) (by rwa [hl' _ h1] at he1) (by rwa [hl' _ h2] at he2)
  · intro id b' δ1 hl1 he1
    by_cases h1 : id = k
    · subst h1
      simp only [upd, if_true, Option.some.injEq, Prod.mk.injEq] at he1
      obtain ⟨rfl, rfl⟩ := he1
      refine ⟨by simp, fun ho => ?_, .inl h.ext.size⟩
      have := c.lt _ ho; have := h.ext.size; omega
    · obtain ⟨g1, g2, g3⟩ := h.own id b' δ1 (live id h1 hl1) (by rwa [hl' _ h1] at he1)
      exact ⟨by simp; omega, g2, g3⟩
  · have hne : id ≠ k := fun he => by subst he; simp only [AS.renew] at hid; rw [hku] at hid; cases hid
    rw [hl' id hne]; exact h.dom id hid
  · by_cases hid : id = k
    · rw [hid]; exact hku
    · exact h.liveU id (live id hid hl)

theorem ok_new {k : Nat} {b : Blk} (h : RepL P c σ ρ w vs xs loc) (hf : σ.free k) (o : Obj) (δ : Nat) (n : Nat) (hn : okOf c w σ.hp loc n) :
    okOf c (w.alloc o) (σ.hp.set k b) (upd loc k (some (w.heap.size, δ))) n ∧ (w.alloc o).heap[n]? = w.heap[n]? := by
  obtain ⟨h1, h2, h3⟩ := hn
  refine ⟨⟨by simp; omega, h2, fun id δ' hl => ?_⟩, (ExtW.alloc w o).block n h1⟩
  by_cases hid : id = k
  · subst hid; simp [upd]; omega
  · simp only [upd, hid, if_false]
    exact h3 id δ' (by simpa only [Live, HP.set, upd, hid, if_false] using hl)

/-- A new block: the state afterwards, the new block's content being known in the new world. -/
theorem RepL.new (h : RepL P c σ ρ w vs xs loc) (k : Nat) (hf : σ.free k) (b : Blk) (o : Obj) (δ : Nat)
    (hb : RepB P (w.alloc o) (okOf c (w.alloc o) (σ.hp.set k b) (upd loc k (some (w.heap.size, δ)))) (upd loc k (some (w.heap.size, δ))) k b) :
    RepL P c (σ.new k b) ρ (w.alloc o) vs xs (upd loc k (some (w.heap.size, δ))) := by
  obtain ⟨hk0, hl0⟩ := h.free_heap hf
  have hl' : ∀ id, id ≠ k → upd loc k (some (w.heap.size, δ)) id = loc id := fun id hne => by simp [upd, hne]
  have hext : ∀ id q, loc id = some q → upd loc k (some (w.heap.size, δ)) id = some q := fun id q hq => by
    have : id ≠ k := fun he => by rw [he, hl0] at hq; cases hq
    rw [hl' id this]; exact hq
  have live : ∀ id, id ≠ k → Live (σ.hp.set k b) id → Live σ.hp id := fun id hne hl => by simpa only [Live, HP.set, upd, hne, if_false] using hl
  refine ⟨fun s => (h.slots s).mono_ext (ok_new h hf o δ) (Shapes.of_ext (ExtW.alloc w o)) hext, h.len, fun i v x hv hx => (h.vals i v x hv hx).mono_ext (ok_new h hf o δ) (Shapes.of_ext (ExtW.alloc w o)) hext, fun id blk hblk => ?_, ?_, ?_, h.ext.step (ExtW.alloc w o),
    fun id hid => by rw [hl' id (by have := hf.1; omega)]; exact h.fix id hid, fun id hid => ?_, fun id hl => ?_⟩
  · by_cases hid : id = k
    · subst hid
      simp only [AS.new, HP.set, upd, if_true, Option.some.injEq] at hblk
      subst hblk; exact hb
    · simp only [AS.new, HP.set, upd, hid, if_false] at hblk
      have hB := h.heap id blk hblk
      have hbl : ∀ b' δ', loc id = some (b', δ') → (w.alloc o).heap[b']? = w.heap[b']? := fun b' δ' he => (ExtW.alloc w o).block b' (h.own id b' δ' (by simp [Live, hblk]) he).1
      cases hB with
      | bx g1 g2 g3 g4 => exact .bx (hext _ _ g1) ((hbl _ _ g1).trans g2) g3 fun i v y hv hy => (g4 i v y hv hy).mono_ext (ok_new h hf o δ) (Shapes.of_ext (ExtW.alloc w o)) hext
      | ar0 sz g1 => exact .ar0 sz ((hl' id hid).trans g1)
      | ar us g1 g2 g3 g4 g5 g6 => exact .ar us (hext _ _ g1) ((hbl _ _ g1).trans g2) g3 g4 g5 fun i j x y hx hy => (g6 i j x y hx hy).mono (ok_new h hf o δ)
      | mb g1 g2 g3 g4 => exact .mb (hext _ _ g1) ((hbl _ _ g1).trans g2) g3 fun i e p he hp => ⟨(g4 i e p he hp).1.mono (ok_new h hf o δ), (g4 i e p he hp).2.mono (ok_new h hf o δ)⟩
  · intro id id' b' δ1 δ2 hl1 hl2 he1 he2
    by_cases h1 : id = k <;> by_cases h2 : id' = k
    · rw [h1, h2]
    · have := (h.own id' b' δ2 (live id' h2 hl2) (by rwa [hl' _ h2] at he2)).1
      rw [h1] at he1; simp [upd] at he1; omega
    · have := (h.own id b' δ1 (live id h1 hl1) (by rwa [hl' _ h1] at he1)).1
      rw [h2] at he2; simp [upd] at he2; omega
    · exact h.inj id id' b' δ1 δ2 (live id h1 hl1) (live id' h2 hl2) (by rwa [hl' _ h1] at he1) (by rwa [hl' _ h2] at he2)
  · intro id b' δ1 hl1 he1
    by_cases h1 : id = k
    · subst h1
      simp only [upd, if_true, Option.some.injEq, Prod.mk.injEq] at he1
      obtain ⟨rfl, rfl⟩ := he1
      refine ⟨by simp, fun ho => ?_, .inl h.ext.size⟩
      have := c.lt _ ho; have := h.ext.size; omega
    · obtain ⟨g1, g2, g3⟩ := h.own id b' δ1 (live id h1 hl1) (by rwa [hl' _ h1] at he1)
      exact ⟨by simp; omega, g2, g3⟩
  · have hne : id ≠ k := fun he => by subst he; simp [AS.new, upd] at hid
    rw [hl' id hne]
    exact h.dom id (by simpa only [AS.new, upd, hne, if_false] using hid)
  · by_cases hid : id = k
    · subst hid; simp [AS.new, upd]
    · simp only [AS.new, upd, hid, if_false]
      exact h.liveU id (live id hid hl)

/-- One live block is written; what it holds afterwards is known. -/
theorem RepL.write (h : RepL P c σ ρ w vs xs loc) (k : Nat) (b : Nat) (δ : Nat) (blk : Blk) (hlive : Live σ.hp k) (hloc : loc k = some (b, δ))
    (hs : Shapes w w') (hw : w'.os = w.os ∧ w'.tape = w.tape ∧ w'.output = w.output) (hsz : w'.heap.size = w.heap.size)
    (hother : ∀ n, n ≠ b → w'.heap[n]? = w.heap[n]?)
    (hb : (∀ n, okOf c w σ.hp loc n → okOf c w' (σ.hp.set k blk) loc n ∧ w'.heap[n]? = w.heap[n]?) → RepB P w' (okOf c w' (σ.hp.set k blk) loc) loc k blk) :
    RepL P c { σ with hp := σ.hp.set k blk } ρ w' vs xs loc := by
  have live : ∀ id, Live (σ.hp.set k blk) id → Live σ.hp id := fun id hl => by
    by_cases hid : id = k
    · rw [hid]; exact hlive
    · simpa only [Live, HP.set, upd, hid, if_false] using hl
  have hk : ∀ n, okOf c w σ.hp loc n → okOf c w' (σ.hp.set k blk) loc n ∧ w'.heap[n]? = w.heap[n]? := fun n ⟨h1, h2, h3⟩ =>
    ⟨⟨by omega, h2, fun id δ' hl => h3 id δ' (live id hl)⟩, hother n fun he => h3 k δ hlive (he ▸ hloc)⟩
  obtain ⟨o1, o2, o3⟩ := h.own k b δ hlive hloc
  refine ⟨fun s => (h.slots s).mono hk hs, h.len, fun i v x hv hx => (h.vals i v x hv hx).mono hk hs, fun id blk' hblk => ?_,
    fun id id' b' δ1 δ2 hl1 hl2 => h.inj id id' b' δ1 δ2 (live id hl1) (live id' hl2), fun id b' δ1 hl he => ?_, ?_, h.fix, h.dom, fun id hl => h.liveU id (live id hl)⟩
  · by_cases hid : id = k
    · subst hid
      simp only [HP.set, upd, if_true, Option.some.injEq] at hblk
      subst hblk; exact hb hk
    · simp only [HP.set, upd, hid, if_false] at hblk
      refine (h.heap id blk' hblk).mono hk hs fun b' δ' he => hother b' fun hbb => hid ?_
      exact h.inj id k b δ' δ (by simp [Live, hblk]) hlive (hbb ▸ he) hloc
  · obtain ⟨g1, g2, g3⟩ := h.own id b' δ1 (live id hl) he
    exact ⟨by omega, g2, g3⟩
  · refine ⟨hw.1.trans h.ext.os, hw.2.1.trans h.ext.tape, hw.2.2.trans h.ext.output, by have := h.ext.size; omega, fun n hn hm => ?_, h.ext.shape.trans hs⟩
    rw [hother n fun he => ?_]
    · exact h.ext.block n hn hm
    · subst he; rcases o3 with o3 | o3
      · omega
      · exact hm o3

theorem setCell_heap_same {b i : Nat} {c : Array Value} {T : TypeId} {fz : Nat × Nat} {v : Value} (h : w.heap[b]? = some (.cells c T fz)) :
    (w.setCell ⟨b, i, none⟩ v).heap[b]? = some (.cells (c.setIfInBounds i v) T fz) := by
  simp [World.setCell, Array.getElem?_modify, h]

theorem setCell_shapes (b i : Nat) (v : Value) : Shapes w (w.setCell ⟨b, i, none⟩ v) := fun n c T fz h => by
  by_cases hn : n = b
  · subst hn; exact ⟨_, T, fz, setCell_heap_same h, by simp⟩
  · exact ⟨c, T, fz, by simp [World.setCell, Array.getElem?_modify, Ne.symm hn, h], rfl⟩

theorem setCell_heap_other {b i n : Nat} {v : Value} (h : n ≠ b) : (w.setCell ⟨b, i, none⟩ v).heap[n]? = w.heap[n]? := by
  simp [World.setCell, Array.getElem?_modify, Ne.symm h]

end
end Go.Fw
