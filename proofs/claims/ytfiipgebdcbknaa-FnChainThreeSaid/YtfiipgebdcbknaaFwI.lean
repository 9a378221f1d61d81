/- Slices that the frame owns: stores into elements, append. -/
import Derived.Test.YtfiipgebdcbknaaFwH
set_option linter.unusedSimpArgs false
set_option linter.unusedVariables false
namespace Go.Fw
open Go

/-- What is appended: the elements of a slice, looked at. -/
def srcOf (hp : HP) : AV → Option (Prop × List D)
  | .d (.list ys) => some (True, ys)
  | .nl => some (True, [])
  | .sl sz id off len => match hp.heap id with
    | some (.ar sz' xs) => some (sz = sz' ∧ off + len ≤ xs.length, (xs.drop off).take len)
    | _ => none
  | _ => none

/-- An element with some cells written. -/
def D.setCell (x : D) (o : Nat) (ys : List D) : D :=
  match x, o, ys with
  | .agg cs, o, ys => .agg (cs.take o ++ ys ++ cs.drop (o + ys.length))
  | _, _, [y] => y
  | x, _, _ => x

section
variable {P : Program} {c : Ctx} {σ : AS} {ρ : Nat → Value} {w : World} {vs : List Value} {xs : List AV} {loc : Nat → Option (Nat × Nat)} {ok : Nat → Prop}

/-- The cells of what is appended. -/
theorem src_cells (h : RepL P c σ ρ w vs xs loc) {x : AV} {p : Prop} {ys : List D} (hx : srcOf σ.hp x = some (p, ys)) (hp : p) {v : Value} (hv : RepA P w (okOf c w σ.hp loc) loc v x) (es : Nat) (hfit : ∀ y ∈ ys, y.fits es) :
    (Builtin.lenOf v).run P w = .ok ys.length w ∧ ∃ g : Nat → Value, (∀ n, n ≤ ys.length → (Builtin.firstCells es n v).run P w = .ok ((List.range (n * es)).map g).toArray w) ∧
      ∀ (i j : Nat) y z, ys[i]? = some y → y.cells[j]? = some z → RepV w (okOf c w σ.hp loc) (g (i * es + j)) z := by
  -- cells that lie in a row
  have row : ∀ (b o cap : Nat) (cur : Array Value) (T : TypeId) (fz : Nat × Nat) (us : Nat → Nat → Value), w.heap[b]? = some (.cells cur T fz) →
      (∀ (i j : Nat) y z, ys[i]? = some y → y.cells[j]? = some z → cur[o + i * es + j]? = some (us i j) ∧ RepV w (okOf c w σ.hp loc) (us i j) z) →
      ∃ g : Nat → Value, (∀ n, n ≤ ys.length → (Builtin.firstCells es n (.slice (some ⟨b, o, none⟩) ys.length cap)).run P w = .ok ((List.range (n * es)).map g).toArray w) ∧
        ∀ (i j : Nat) y z, ys[i]? = some y → y.cells[j]? = some z → RepV w (okOf c w σ.hp loc) (g (i * es + j)) z := by
    intro b o cap cur T fz us hh hc
    have key : ∀ (i j : Nat) y z, ys[i]? = some y → y.cells[j]? = some z → (i * es + j) / es = i ∧ (i * es + j) % es = j := by
      intro i j y z hy hz
      have hj : j < es := by have := (List.getElem?_eq_some_iff.1 hz).1; rw [(hfit y (List.mem_of_getElem? hy)).1] at this; exact this
      exact ⟨by rw [Nat.add_comm, Nat.add_mul_div_right _ _ (by omega), Nat.div_eq_of_lt hj, Nat.zero_add], by rw [Nat.add_comm, Nat.add_mul_mod_self_right, Nat.mod_eq_of_lt hj]⟩
    refine ⟨fun q => us (q / es) (q % es), fun n hn => ?_, fun i j y z hy hz => ?_⟩
    · simp only [Builtin.firstCells]
      refine run_loadCells w _ _ _ fun q hq => ?_
      have hes : 0 < es := by
        rcases Nat.eq_zero_or_pos es with he | he
        · rw [he] at hq; omega
        · exact he
      have hi : q / es < ys.length := Nat.lt_of_lt_of_le ((Nat.div_lt_iff_lt_mul hes).2 hq) hn
      have hy := List.getElem?_eq_getElem hi
      have hjl : q % es < (ys[q / es]).cells.length := by rw [(hfit _ (List.getElem_mem _)).1]; exact Nat.mod_lt _ hes
      have := (hc _ _ _ _ hy (List.getElem?_eq_getElem hjl)).1
      rw [Addr.add_none, cell_of_block hh, ← this]
      congr 1
      have := Nat.div_add_mod q es
      rw [Nat.mul_comm] at this; omega
    · obtain ⟨k1, k2⟩ := key i j y z hy hz
      simp only [k1, k2]
      exact (hc i j y z hy hz).2
  have empty : ∀ (base : Option Addr) (cap : Nat), ys = [] → ∃ g : Nat → Value, (∀ n, n ≤ ys.length → (Builtin.firstCells es n (.slice base 0 cap)).run P w = .ok ((List.range (n * es)).map g).toArray w) ∧
        ∀ (i j : Nat) y z, ys[i]? = some y → y.cells[j]? = some z → RepV w (okOf c w σ.hp loc) (g (i * es + j)) z := by
    intro base cap he
    subst he
    refine ⟨fun _ => undef, fun n hn => ?_, fun i j y z hy => by simp at hy⟩
    have hn0 : n = 0 := Nat.le_zero.1 hn
    subst hn0
    cases base <;> simp [Builtin.firstCells, loadCells, loadCellsFrom]
  unfold srcOf at hx
  split at hx
  · simp only [Option.some.injEq, Prod.mk.injEq] at hx; obtain ⟨rfl, rfl⟩ := hx
    cases hv with | d hv =>
    cases hv with
    | nil base cap => exact ⟨by simp [Builtin.lenOf], empty base cap rfl⟩
    | list us e1 e2 e3 e4 e5 e6 e7 =>
      subst e1
      refine ⟨by simp [Builtin.lenOf], ?_⟩
      rename_i b off cap sz cur T fz
      refine row b off cap cur T fz us e4 fun i j y z hy hz => ⟨?_, e7 i j y z hy hz⟩
      have : sz = es := by rw [← (e5 y (List.mem_of_getElem? hy)).1, (hfit y (List.mem_of_getElem? hy)).1]
      subst this; exact e6 i j y z hy hz
  · simp only [Option.some.injEq, Prod.mk.injEq] at hx; obtain ⟨rfl, rfl⟩ := hx
    cases hv
    exact ⟨by simp [Builtin.lenOf], empty none 0 rfl⟩
  · rename_i sz id off len
    split at hx
    · rename_i sz' ys' hh
      simp only [Option.some.injEq, Prod.mk.injEq] at hx; obtain ⟨rfl, rfl⟩ := hx
      obtain ⟨rfl, hle⟩ := hp
      have hlen : ((ys'.drop off).take len).length = len := by simp; omega
      cases hv with
      | sl0 base => rw [List.take_zero] at *; exact ⟨by simp [Builtin.lenOf], empty base 0 rfl⟩
      | @sl _ _ _ _ b δ cap cur T fz hl hb hcap hlen' hm =>
        refine ⟨by simp only [Builtin.lenOf, Sem.run_pure, hlen], ?_⟩
        cases h.heap id _ hh with
        | ar0 _ hl' => rw [hl] at hl'; cases hl'
        | @ar b' δ' cur' T' _ _ us hl' hb' hz hsz hc hu =>
          rw [hl] at hl'; simp only [Option.some.injEq, Prod.mk.injEq] at hl'; obtain ⟨rfl, rfl⟩ := hl'
          have get : ∀ (i : Nat) y, ((ys'.drop off).take len)[i]? = some y → ys'[off + i]? = some y := fun i y hy => by
            rw [List.getElem?_take] at hy
            split at hy
            · rwa [List.getElem?_drop] at hy
            · cases hy
          have := row b (δ + off * sz) cap cur' T' _ (fun i j => us (off + i) j) hb' fun i j y z hy hz => by
            have hse : sz = es := by rw [← (hsz y (List.mem_of_getElem? (get i y hy))).1, (hfit y (List.mem_of_getElem? hy)).1]
            subst hse
            refine ⟨?_, hu _ _ _ _ (get i y hy) hz⟩
            have := hc _ _ _ _ (get i y hy) hz
            rw [Nat.add_mul] at this
            rw [show δ + off * sz + i * sz + j = δ + (off * sz + i * sz) + j by omega]; exact this
          rw [hlen] at this ⊢
          exact this
    · cases hx
  · cases hx

theorem RepV.cell_one {v : Value} {y : D} (h : RepV w ok v y) (hy : y.isAgg = false) : v.oneCell' = true := h.one1 hy

/-- A nil slice taken as one of the frame's own. -/
theorem RepL.readopt (h : RepL P c σ ρ w vs xs loc) (k : Nat) (h100 : 100 ≤ k) (hku : σ.used k = true) (sz : Nat) : RepL P c (σ.renew k (.ar sz [])) ρ w vs (xs.map (AV.kill k)) (upd loc k none) := by
  have hl' : ∀ id, id ≠ k → upd loc k none id = loc id := fun id hne => by simp [upd, hne]
  have live : ∀ id, id ≠ k → Live ((σ.hp.kill k).set k (.ar sz [])) id → Live σ.hp id := fun id hne hl => by
    simp only [Live, HP.set, HP.kill, upd, hne, if_false] at hl ⊢
    intro he; apply hl; simp [he]
  have hk : ∀ b, okOf c w σ.hp loc b → okOf c w ((σ.hp.kill k).set k (.ar sz [])) (upd loc k none) b ∧ w.heap[b]? = w.heap[b]? := fun b ⟨h1, h2, h3⟩ =>
    ⟨⟨h1, h2, fun id δ hl => by
      by_cases hid : id = k
      · subst hid; simp [upd]
      · rw [hl' _ hid]; exact h3 id δ (live id hid hl)⟩, rfl⟩
  refine ⟨fun s => (h.slots s).mono_kill hk (Shapes.refl w) k hl', by simpa using h.len, fun i v x hv hx => ?_, fun id blk hblk => ?_, fun id id' b δ δ' l1 l2 e1 e2 => ?_, fun id b δ l1 e1 => ?_, h.ext, fun id hid => by rw [hl' id (by omega)]; exact h.fix id hid, fun id hid => ?_, fun id hl => ?_⟩
  · simp only [List.getElem?_map, Option.map_eq_some_iff] at hx
    obtain ⟨x', hx', rfl⟩ := hx
    exact (h.vals i v x' hv hx').mono_kill hk (Shapes.refl w) k hl'
  · by_cases hid : id = k
    · subst hid
      simp only [AS.renew, HP.set, upd, if_true, Option.some.injEq] at hblk
      subst hblk; exact .ar0 sz (by simp [upd])
    · simp only [AS.renew, HP.set, HP.kill, upd, hid, if_false, Option.map_eq_some_iff] at hblk
      obtain ⟨blk', hblk', rfl⟩ := hblk
      exact (h.heap id blk' hblk').mono_kill hid hk (Shapes.refl w) hl' fun _ _ _ => rfl
  · have h1 : id ≠ k := fun he => by subst he; simp [upd] at e1
    have h2 : id' ≠ k := fun he => by subst he; simp [upd] at e2
    exact h.inj id id' b δ δ' (live id h1 l1) (live id' h2 l2) (by rwa [hl' _ h1] at e1) (by rwa [hl' _ h2] at e2)
  · have h1 : id ≠ k := fun he => by subst he; simp [upd] at e1
    exact h.own id b δ (live id h1 l1) (by rwa [hl' _ h1] at e1)
  · have hne : id ≠ k := fun he => by subst he; simp only [AS.renew] at hid; rw [hku] at hid; cases hid
    rw [hl' id hne]; exact h.dom id hid
  · by_cases hid : id = k
    · rw [hid]; exact hku
    · exact h.liveU id (live id hid hl)

/-- A nil slice taken as one of the frame's own, under a free number. -/
theorem RepL.adopt (h : RepL P c σ ρ w vs xs loc) (k : Nat) (hf : σ.free k) (sz : Nat) : RepL P c (σ.new k (.ar sz [])) ρ w vs xs loc := by
  obtain ⟨hk0, hl0⟩ := h.free_heap hf
  have live : ∀ id, id ≠ k → Live (σ.hp.set k (.ar sz [])) id → Live σ.hp id := fun id hne hl => by simpa only [Live, HP.set, upd, hne, if_false] using hl
  have hne : ∀ id q, loc id = some q → id ≠ k := fun id q hq he => by rw [he, hl0] at hq; cases hq
  have hk : ∀ b, okOf c w σ.hp loc b → okOf c w (σ.hp.set k (.ar sz [])) loc b ∧ w.heap[b]? = w.heap[b]? := fun b ⟨h1, h2, h3⟩ =>
    ⟨⟨h1, h2, fun id δ hl he => h3 id δ (live id (hne id _ he) hl) he⟩, rfl⟩
  refine ⟨fun s => (h.slots s).mono hk (Shapes.refl w), h.len, fun i v x hv hx => (h.vals i v x hv hx).mono hk (Shapes.refl w), fun id blk hblk => ?_, fun id id' b δ δ' l1 l2 e1 e2 => h.inj id id' b δ δ' (live id (hne _ _ e1) l1) (live id' (hne _ _ e2) l2) e1 e2,
    fun id b δ l1 e1 => h.own id b δ (live id (hne _ _ e1) l1) e1, h.ext, h.fix, fun id hid => ?_, fun id hl => ?_⟩
  · by_cases hid : id = k
    · subst hid
      simp only [AS.new, HP.set, upd, if_true, Option.some.injEq] at hblk
      subst hblk; exact .ar0 sz hl0
    · simp only [AS.new, HP.set, upd, hid, if_false] at hblk
      exact (h.heap id blk hblk).mono hk (Shapes.refl w) fun _ _ _ => rfl
  · have hn : id ≠ k := fun he => by subst he; simp [AS.new, upd] at hid
    exact h.dom id (by simpa only [AS.new, upd, hn, if_false] using hid)
  · by_cases hid : id = k
    · subst hid; simp [AS.new, upd]
    · simp only [AS.new, upd, hid, if_false]
      exact h.liveU id (live id hid hl)

/-- The frame's own block is written, and its number's row begins elsewhere in it. -/
theorem RepL.rewrite {w' : World} (h : RepL P c σ ρ w vs xs loc) (k : Nat) (h100 : 100 ≤ k) (b δ δ' : Nat) (blk : Blk) (hlive : Live σ.hp k) (hloc : loc k = some (b, δ))
    (hs : Shapes w w') (hw : w'.os = w.os ∧ w'.tape = w.tape ∧ w'.output = w.output) (hsz : w'.heap.size = w.heap.size)
    (hother : ∀ n, n ≠ b → w'.heap[n]? = w.heap[n]?)
    (hb : (∀ n, okOf c w σ.hp loc n → okOf c w' ((σ.hp.kill k).set k blk) (upd loc k (some (b, δ'))) n ∧ w'.heap[n]? = w.heap[n]?) →
      RepB P w' (okOf c w' ((σ.hp.kill k).set k blk) (upd loc k (some (b, δ')))) (upd loc k (some (b, δ'))) k blk) :
    RepL P c (σ.renew k blk) ρ w' vs (xs.map (AV.kill k)) (upd loc k (some (b, δ'))) := by
  have hl' : ∀ id, id ≠ k → upd loc k (some (b, δ')) id = loc id := fun id hne => by simp [upd, hne]
  have live : ∀ id, Live ((σ.hp.kill k).set k blk) id → Live σ.hp id := fun id hl => by
    by_cases hid : id = k
    · rw [hid]; exact hlive
    · simp only [Live, HP.set, HP.kill, upd, hid, if_false] at hl ⊢
      intro he; apply hl; simp [he]
  have hk : ∀ n, okOf c w σ.hp loc n → okOf c w' ((σ.hp.kill k).set k blk) (upd loc k (some (b, δ'))) n ∧ w'.heap[n]? = w.heap[n]? := fun n ⟨h1, h2, h3⟩ => by
    refine ⟨⟨by omega, h2, fun id δ1 hl he => ?_⟩, hother n fun he => h3 k δ hlive (he ▸ hloc)⟩
    by_cases hid : id = k
    · subst hid
      simp only [upd, if_true, Option.some.injEq, Prod.mk.injEq] at he
      exact h3 id δ hlive (he.1 ▸ hloc)
    · rw [hl' _ hid] at he; exact h3 id δ1 (live id hl) he
  obtain ⟨o1, o2, o3⟩ := h.own k b δ hlive hloc
  have floc : ∀ id b1 δ1, Live ((σ.hp.kill k).set k blk) id → upd loc k (some (b, δ')) id = some (b1, δ1) → ∃ δ2, loc id = some (b1, δ2) := fun id b1 δ1 _ he => by
    by_cases hid : id = k
    · subst hid
      simp only [upd, if_true, Option.some.injEq, Prod.mk.injEq] at he
      exact ⟨δ, he.1 ▸ hloc⟩
    · rw [hl' _ hid] at he; exact ⟨δ1, he⟩
  refine ⟨fun s => (h.slots s).mono_kill hk hs k hl', by simpa using h.len, fun i v x hv hx => ?_, fun id blk' hblk => ?_, fun id id' b' δ1 δ2 hl1 hl2 he1 he2 => ?_, fun id b' δ1 hl he => ?_, ?_, fun id hid => by rw [hl' id (by omega)]; exact h.fix id hid, fun id hid => ?_, fun id hl => h.liveU id (live id hl)⟩
  · simp only [List.getElem?_map, Option.map_eq_some_iff] at hx
    obtain ⟨x', hx', rfl⟩ := hx
    exact (h.vals i v x' hv hx').mono_kill hk hs k hl'
  · by_cases hid : id = k
    · subst hid
      simp only [AS.renew, HP.set, upd, if_true, Option.some.injEq] at hblk
      subst hblk; exact hb hk
    · simp only [AS.renew, HP.set, HP.kill, upd, hid, if_false, Option.map_eq_some_iff] at hblk
      obtain ⟨blk', hblk', rfl⟩ := hblk
      refine (h.heap id blk' hblk').mono_kill hid hk hs hl' fun b' δ1 he => hother b' fun hbb => hid ?_
      exact h.inj id k b δ1 δ (by simp [Live, hblk']) hlive (hbb ▸ he) hloc
  · obtain ⟨d1, g1⟩ := floc id b' δ1 hl1 he1
    obtain ⟨d2, g2⟩ := floc id' b' δ2 hl2 he2
    exact h.inj id id' b' d1 d2 (live id hl1) (live id' hl2) g1 g2
  · obtain ⟨d1, g1⟩ := floc id b' δ1 hl he
    obtain ⟨g1, g2, g3⟩ := h.own id b' d1 (live id hl) g1
    exact ⟨by omega, g2, g3⟩
  · refine ⟨hw.1.trans h.ext.os, hw.2.1.trans h.ext.tape, hw.2.2.trans h.ext.output, by have := h.ext.size; omega, fun n hn hm => ?_, h.ext.shape.trans hs⟩
    rw [hother n fun he => ?_]
    · exact h.ext.block n hn hm
    · subst he; rcases o3 with o3 | o3
      · omega
      · exact hm o3
  · have hne : id ≠ k := fun he => by subst he; have := h.liveU _ hlive; simp only [AS.renew] at hid; rw [this] at hid; cases hid
    rw [hl' id hne]; exact h.dom id hid

end
end Go.Fw
