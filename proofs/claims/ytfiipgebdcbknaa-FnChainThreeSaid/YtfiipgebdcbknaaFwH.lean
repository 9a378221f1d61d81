/- Slices that the frame makes: literals, make, append. -/
import Derived.Test.YtfiipgebdcbknaaFwG
set_option linter.unusedSimpArgs false
set_option linter.unusedVariables false
namespace Go.Fw
open Go

def toDA (hp : HP) : List AV → Option (Prop × List D × List Nat)
  | [] => some (True, [], [])
  | x :: r => match toD hp x, toDA hp r with
    | some (p, y, l), some (q, ys, l') => some (p ∧ q, y :: ys, l ++ l')
    | _, _ => none

def ofValD : Value → Option D
  | .int k n => some (.int k n)
  | .bool b => some (.bool b)
  | .string s => some (.str s.data.toList)
  | .slice a n c => if a = none ∧ n = 0 ∧ c = 0 then some (.list []) else none
  | _ => none
def ofValDs : List Value → Option (List D)
  | [] => some []
  | v :: r => match ofValD v, ofValDs r with
    | some x, some xs => some (x :: xs)
    | _, _ => none
/-- A type's zero value as a datum. -/
def zeroD (ag : Bool) (z : List Value) : Option D :=
  if ag then (ofValDs z).map .agg else match z with | [v] => ofValD v | _ => none

section
variable {P : Program} {c : Ctx} {σ : AS} {ρ : Nat → Value} {w : World} {vs : List Value} {xs : List AV} {loc : Nat → Option (Nat × Nat)} {ok : Nat → Prop}

theorem toDA_rep (h : RepL P c σ ρ w vs xs loc) : ∀ {cs : List AV} {p : Prop} {ys : List D} {l l' : List Nat}, toDA σ.hp cs = some (p, ys, l) → p → (∀ i ∈ l, i ∈ l') →
    ys.length = cs.length ∧ ∀ (i : Nat) v x y, cs[i]? = some x → ys[i]? = some y → RepA P w (okOf c w σ.hp loc) loc v x → RepV w (okOf c w (σ.hp.dropL l') loc) v y
  | [], p, ys, l, l', hx, hp, hs => by
    simp only [toDA, Option.some.injEq, Prod.mk.injEq] at hx; obtain ⟨_, rfl, _⟩ := hx
    exact ⟨rfl, fun i v x y h1 => by simp at h1⟩
  | x :: r, p, ys, l, l', hx, hp, hs => by
    simp only [toDA] at hx
    split at hx
    · rename_i p1 y l1 q ys' l2 e1 e2
      simp only [Option.some.injEq, Prod.mk.injEq] at hx; obtain ⟨rfl, rfl, rfl⟩ := hx
      obtain ⟨i1, i2⟩ := toDA_rep h e2 hp.2 fun i hi => hs i (by simp [hi])
      refine ⟨by simp [i1], fun i v x' y' h1 h2 h3 => ?_⟩
      cases i with
      | zero => simp at h1 h2; subst h1; subst h2; exact toD_rep h e1 hp.1 h3 fun i hi => hs i (by simp [hi])
      | succ i => simp at h1 h2; exact i2 i v x' y' h1 h2 h3
    · cases hx

theorem RepV.cells {v : Value} {y : D} (h : RepV w ok v y) : v.cells.size = y.cells.length ∧ ∀ (j : Nat) u z, v.cells[j]? = some u → y.cells[j]? = some z → RepV w ok u z := by
  cases h with
  | agg h1 h2 => exact ⟨h1, h2⟩
  | int k n => refine ⟨rfl, fun j u z h1 h2 => ?_⟩; cases j <;> simp [Value.cells, D.cells] at h1 h2; subst h1; subst h2; exact .int _ _
  | bool b => refine ⟨rfl, fun j u z h1 h2 => ?_⟩; cases j <;> simp [Value.cells, D.cells] at h1 h2; subst h1; subst h2; exact .bool _
  | str s => refine ⟨rfl, fun j u z h1 h2 => ?_⟩; cases j <;> simp [Value.cells, D.cells] at h1 h2; subst h1; subst h2; exact .str _
  | nil b cp => refine ⟨rfl, fun j u z h1 h2 => ?_⟩; cases j <;> simp [Value.cells, D.cells] at h1 h2; subst h1; subst h2; exact .nil _ _
  | list us e1 e2 e3 e4 e5 e6 e7 =>
    refine ⟨rfl, fun j u z h1 h2 => ?_⟩
    cases j <;> simp [Value.cells, D.cells] at h1 h2
    subst h1; subst h2; exact .list us e1 e2 e3 e4 e5 e6 e7

theorem RepV.ofValD {v : Value} {y : D} (h : ofValD v = some y) : RepV w ok v y := by
  unfold Fw.ofValD at h
  split at h <;> first | (cases h; done) | skip
  · cases h; exact .int _ _
  · cases h; exact .bool _
  · rename_i s; cases h; exact RepV.str s.data.toList
  · split at h
    · rename_i e; obtain ⟨rfl, rfl, rfl⟩ := e; cases h; exact .nil _ _
    · cases h

theorem ofValDs_get : ∀ {l : List Value} {ys : List D}, ofValDs l = some ys → ys.length = l.length ∧ ∀ (i : Nat) v y, l[i]? = some v → ys[i]? = some y → ofValD v = some y
  | [], ys, h => by simp only [ofValDs, Option.some.injEq] at h; subst h; exact ⟨rfl, fun i v y h1 => by simp at h1⟩
  | v :: r, ys, h => by
    simp only [ofValDs] at h
    split at h
    · rename_i x xs e1 e2
      simp only [Option.some.injEq] at h; subst h
      obtain ⟨i1, i2⟩ := ofValDs_get e2
      refine ⟨by simp [i1], fun i v' y h1 h2 => ?_⟩
      cases i with
      | zero => simp at h1 h2; subst h1; subst h2; exact e1
      | succ i => simp at h1 h2; exact i2 i v' y h1 h2
    · cases h

theorem fill_run (es : Nat) : ∀ (ps : List (Nat × Value)) (k : Nat) (cells : Array Value), ps.map Prod.fst = List.range' k ps.length → (∀ p ∈ ps, p.2.cells.size = es) → (k + ps.length) * es ≤ cells.size →
    ∃ cells', Instr.fill (fun i => some (i * es, es)) cells ps = some cells' ∧ cells'.size = cells.size ∧ (∀ q, q < k * es → cells'[q]? = cells[q]?) ∧
      ∀ i p, ps[i]? = some p → ∀ j, j < es → cells'[(k + i) * es + j]? = p.2.cells[j]?
  | [], k, cells, _, _, _ => ⟨cells, rfl, rfl, fun _ _ => rfl, fun i p h => by simp at h⟩
  | (i0, v) :: r, k, cells, hk, hv, hs => by
    simp only [List.map_cons, List.length_cons, List.range'_succ, List.cons.injEq] at hk
    obtain ⟨rfl, hk⟩ := hk
    have hve : v.cells.size = es := hv (i0, v) (by simp)
    have hle : i0 * es + es ≤ cells.size := by
      have : (i0 + (r.length + 1)) * es = i0 * es + es + r.length * es := by rw [Nat.add_mul, Nat.add_mul]; omega
      simp only [List.length_cons] at hs; omega
    have hfold : ∀ (l : List Value) (s : Nat) (cs : Array Value), i0 * es + s + l.length ≤ cs.size →
        (l.zipIdx s).foldl (fun cs (p : Value × Nat) => cs.setIfInBounds (i0 * es + p.2) p.1) cs = splice cs (i0 * es + s) l := by
      intro l
      induction l with
      | nil => intro s cs _; simp [splice]
      | cons x l ih =>
        intro s cs hcs
        simp only [List.length_cons] at hcs
        rw [List.zipIdx_cons, List.foldl_cons, ih (s + 1) _ (by simp; omega)]
        apply Array.ext_getElem?
        intro q
        rw [splice_get (by simp; omega), splice_get (by simp; omega)]
        simp only [List.length_cons]
        by_cases h1 : i0 * es + (s + 1) ≤ q ∧ q < i0 * es + (s + 1) + l.length
        · rw [if_pos h1, if_pos (by omega), show q - (i0 * es + s) = (q - (i0 * es + (s + 1))) + 1 by omega, List.getElem?_cons_succ]
        · rw [if_neg h1]
          by_cases h2 : q = i0 * es + s
          · subst h2
            rw [if_pos (by omega), Nat.sub_self, List.getElem?_cons_zero, Array.getElem?_setIfInBounds_self_of_lt (by omega)]
          · rw [if_neg (by omega), Array.getElem?_setIfInBounds_ne (Ne.symm h2)]
    have hf := hfold v.cells.toList 0 cells (by simp; omega)
    simp only [Nat.add_zero] at hf
    have hzip : v.cells.zipIdx.foldl (fun cs (p : Value × Nat) => cs.setIfInBounds (i0 * es + p.2) p.1) cells = splice cells (i0 * es) v.cells.toList := by
      rw [← hf, ← Array.foldl_toList, Array.toList_zipIdx]
    have hsp : i0 * es + v.cells.toList.length ≤ cells.size := by simp; omega
    obtain ⟨cells', e1, e2, e3, e4⟩ := fill_run es r (i0 + 1) (splice cells (i0 * es) v.cells.toList) hk (fun p hp => hv p (by simp [hp]))
      (by rw [splice_size hsp]; simp only [List.length_cons] at hs; rw [show i0 + 1 + r.length = i0 + (r.length + 1) by omega]; exact hs)
    refine ⟨cells', ?_, by rw [e2, splice_size hsp], fun q hq => ?_, fun i p hp j hj => ?_⟩
    · simp only [Instr.fill]
      rw [if_neg (by simp; omega)]
      rw [← e1]; congr 1
    · rw [e3 q (by rw [Nat.add_mul]; omega), splice_get hsp, if_neg (by omega)]
    · cases i with
      | zero =>
        simp only [List.getElem?_cons_zero, Option.some.injEq] at hp; subst hp
        simp only [Nat.add_zero]
        rw [e3 _ (by rw [Nat.add_mul]; omega), splice_get hsp, if_pos (by simp; omega)]
        simp
      | succ i =>
        simp only [List.getElem?_cons_succ] at hp
        rw [show i0 + (i + 1) = i0 + 1 + i by omega]
        exact e4 i p hp j hj

theorem tI_zero {t : TypeId} {a : Bool} {n : Nat} {z : List Value} (h : tI P t = some (a, n, z)) : ∃ i zv, P.info? t = some i ∧ i.zero = some zv ∧ i.size = n ∧ zv.cells.toList = z := by
  unfold tI at h
  split at h
  · rename_i u i hu hi
    split at h
    · rename_i zv hz
      simp only [Option.some.injEq, Prod.mk.injEq] at h
      exact ⟨i, zv, hi, hz, h.2.1, h.2.2⟩
    · cases h
  · cases h

/-- A slice literal, every place of it written. -/
theorem RepL.buildSlice (h : RepL P c σ ρ w vs xs loc) (k : Nat) (hf : σ.free k) {t : TypeId} {es by' : Nat} {e : TypeId} {ag : Bool} {n : Nat} {z : List Value} (ht : tElem P t = some (es, by', e)) (hz : tI P e = some (ag, n, z))
    {ps : List (Nat × Value)} {avs : List AV} (hk : ps.map Prod.fst = List.range ps.length) (hl : ps.length = avs.length)
    (hv : ∀ (i : Nat) p x, ps[i]? = some p → avs[i]? = some x → RepA P w (okOf c w σ.hp loc) loc p.2 x)
    {p : Prop} {ys : List D} {l : List Nat} (hd : toDA σ.hp avs = some (p, ys, l)) (hp : p) (hfit : ∀ y ∈ ys, y.fits es) (hpos : 0 < es) (hsm : ps.length * es ≤ 16777216) :
    ∃ v w' loc', (Instr.buildSlice t ps.length ps.toArray).run P w = .ok v w' ∧ RepL P c (AS.new { σ with hp := σ.hp.dropL l } k (.ar es ys)) ρ w' vs xs loc' ∧
      RepA P w' (okOf c w' (AS.new { σ with hp := σ.hp.dropL l } k (.ar es ys)).hp loc') loc' v (.sl es k 0 ps.length) := by
  obtain ⟨hu, i, hi, rfl, _⟩ := tElem_und ht
  obtain ⟨i', zv, hi', hzv, hsz, _⟩ := tI_zero hz
  rw [hi] at hi'; simp only [Option.some.injEq] at hi'; subst hi'
  obtain ⟨d1, d2⟩ := toDA_rep h hd hp (l' := l) fun i hi => hi
  have hcl : ∀ (j : Nat) p, ps[j]? = some p → ∃ y, ys[j]? = some y ∧ RepV w (okOf c w (σ.hp.dropL l) loc) p.2 y := fun j p hj => by
    have hjl : j < ps.length := (List.getElem?_eq_some_iff.1 hj).1
    refine ⟨ys[j]'(by omega), List.getElem?_eq_getElem (by omega), ?_⟩
    exact d2 j p.2 (avs[j]'(by omega)) _ (List.getElem?_eq_getElem (by omega)) (List.getElem?_eq_getElem (by omega)) (hv j p _ hj (List.getElem?_eq_getElem (by omega)))
  have hps : ∀ p ∈ ps, p.2.cells.size = i.size := fun p hp => by
    obtain ⟨j, hj⟩ := List.mem_iff_getElem?.1 hp
    obtain ⟨y, hy, hr⟩ := hcl j p hj
    rw [hr.cells.1]; exact (hfit y (List.mem_of_getElem? hy)).1
  let zero0 : Array Value := if ps.length * i.size = 0 then #[] else zv.cells
  obtain ⟨cells, f1, f2, f3, f4⟩ := fill_run i.size ps 0 ((Array.range (ps.length * i.size)).map (zero0[· % zero0.size]!)) (by rw [hk, List.range_eq_range']) hps (by simp)
  have hsize : cells.size = ps.length * i.size := by rw [f2]; simp
  have hrun : (Instr.buildSlice t ps.length ps.toArray).run P w = .ok (.slice (some ⟨w.heap.size, 0, none⟩) ps.length ps.length) (w.alloc (.cells cells e)) := by
    have hns : ¬ ps.length * i.size > 2 ^ 24 := by omega
    by_cases h0 : ps.length * i.size = 0
    · have : zero0 = #[] := by simp only [zero0, if_pos h0]
      rw [this] at f1
      simp only [Instr.buildSlice, Sem.run_bind, run_underlying' hu, Result.andThen_ok, run_sizeOf' hi, if_neg hns, if_pos h0, Sem.run_pure, f1, newRow, run_newObj, World.alloc_eq]
    · have : zero0 = zv.cells := by simp only [zero0, if_neg h0]
      rw [this] at f1
      simp only [Instr.buildSlice, Sem.run_bind, run_underlying' hu, Result.andThen_ok, run_sizeOf' hi, if_neg hns, if_neg h0, zeroValue, typeInfo, run_program, hi, hzv, Sem.run_pure, f1, newRow, run_newObj, World.alloc_eq]
  have hnew : RepL P c (AS.new { σ with hp := σ.hp.dropL l } k (.ar i.size ys)) ρ (w.alloc (.cells cells e)) vs xs (upd loc k (some (w.heap.size, 0))) := by
    refine (RepL.dropL l h).new k hf _ _ 0 ?_
    refine .ar (b := w.heap.size) (δ := 0) (fun i' j => cells[i' * i.size + j]?.getD undef) (by simp [upd]) (heap_alloc_new w _) (by rw [hsize, Nat.zero_add, d1, ← hl]; exact Nat.le_refl _) hfit (fun i' j x y hx hy => ?_) fun i' j x y hx hy => ?_
    all_goals
      have hil : i' < ps.length := by have := (List.getElem?_eq_some_iff.1 hx).1; omega
      obtain ⟨y', hy', hr⟩ := hcl i' ps[i'] (List.getElem?_eq_getElem hil)
      rw [hx] at hy'; simp only [Option.some.injEq] at hy'; subst hy'
      have hjl : j < i.size := by have := (List.getElem?_eq_some_iff.1 hy).1; rw [(hfit x (List.mem_of_getElem? hx)).1] at this; exact this
      have hcj := f4 i' ps[i'] (List.getElem?_eq_getElem hil) j hjl
      rw [Nat.zero_add] at hcj
      have hjs : j < ps[i'].2.cells.size := by rw [hps _ (List.getElem_mem _)]; exact hjl
      rw [Array.getElem?_eq_getElem hjs] at hcj
    · rw [Nat.zero_add, hcj]; rfl
    · rw [hcj]
      exact (hr.cells.2 j _ y (Array.getElem?_eq_getElem hjs) hy).mono fun b hb => ok_new (RepL.dropL l h) hf _ 0 b hb
  refine ⟨_, _, upd loc k (some (w.heap.size, 0)), hrun, hnew, ?_⟩
  by_cases h0 : ps.length = 0
  · rw [h0]; exact .sl0 _ _ _ _
  · have := RepA.sl (P := P) (w := w.alloc (.cells cells e)) (ok := okOf c (w.alloc (.cells cells e)) (AS.new { σ with hp := σ.hp.dropL l } k (.ar i.size ys)).hp (upd loc k (some (w.heap.size, 0))))
      (loc := upd loc k (some (w.heap.size, 0))) (sz := i.size) (id := k) (off := 0) (len := ps.length) (b := w.heap.size) (δ := 0) (cap := ps.length) (by simp [upd]) (heap_alloc_new w _) (by rw [hsize]; simp) (Nat.le_refl _)
      (by have : ps.length ≤ ps.length * i.size := Nat.le_mul_of_pos_right _ hpos
          unfold maxLen; omega)
    simpa using this

/-- 'make([]T, n)', the capacity at least the length. -/
theorem RepL.makeSlice (h : RepL P c σ ρ w vs xs loc) (k : Nat) (hf : σ.free k) {t : TypeId} {es by' : Nat} {e : TypeId} {ag : Bool} {n : Nat} {z : List Value} (ht : tElem P t = some (es, by', e)) (hz : tI P e = some (ag, n, z))
    {zd : D} (hzd : zeroD ag z = some zd) (hfz : zd.fits es) (hpos : 0 < es) (kl kc : IntKind) {m q : Int} (h0 : 0 ≤ m) (hmq : m ≤ q) (hby : (by' : Int) * q ≤ 281474976710656) (hm : q ≤ 9223372036854775807) :
    ∃ v w' loc', (Instr.makeSlice t (.int kl m) (.int kc q)).run P w = .ok v w' ∧ RepL P c (σ.new k (.ar es (List.replicate m.toNat zd))) ρ w' vs xs loc' ∧
      RepA P w' (okOf c w' (σ.new k (.ar es (List.replicate m.toNat zd))).hp loc') loc' v (.sl es k 0 m.toNat) := by
  obtain ⟨hu, i, hi, rfl, rfl⟩ := tElem_und ht
  obtain ⟨i', zv, hi', hzv, hsz, rfl⟩ := tI_zero hz
  rw [hi] at hi'; simp only [Option.some.injEq] at hi'; subst hi'
  have hzr : ∀ (w' : World) (ok' : Nat → Prop), ∀ (j : Nat) u y, zv.cells[j]? = some u → zd.cells[j]? = some y → RepV w' ok' u y := by
    intro w' ok' j u y hu' hy
    unfold zeroD at hzd
    cases ag with
    | true =>
      simp only [if_true, Option.map_eq_some_iff] at hzd
      obtain ⟨ds, hds, rfl⟩ := hzd
      obtain ⟨_, g2⟩ := ofValDs_get hds
      exact .ofValD (g2 j u y (by rw [Array.getElem?_toList]; exact hu') hy)
    | false =>
      simp only [Bool.false_eq_true, if_false] at hzd
      split at hzd
      · rename_i v hv
        have hu2 : zv.cells.toList[j]? = some u := by rw [Array.getElem?_toList]; exact hu'
        rw [hv] at hu2
        have hna : zd.isAgg = false := by
          unfold ofValD at hzd
          split at hzd <;> first | (cases hzd; done) | (cases hzd; rfl) | (split at hzd <;> first | (cases hzd; done) | (cases hzd; rfl))
        have hc : zd.cells = [zd] := by cases zd <;> first | rfl | (simp [D.isAgg] at hna)
        rw [hc] at hy
        cases j with
        | zero => simp at hu2 hy; subst hu2; subst hy; exact .ofValD hzd
        | succ j => simp at hy
      · cases hzd
  have hzl : zv.cells.size = i.size := by
    have h1 : zv.cells.size = zd.cells.length := by
      unfold zeroD at hzd
      cases ag with
      | true =>
        simp only [if_true, Option.map_eq_some_iff] at hzd
        obtain ⟨ds, hds, rfl⟩ := hzd
        have := (ofValDs_get hds).1
        simpa [D.cells] using this.symm
      | false =>
        simp only [Bool.false_eq_true, if_false] at hzd
        split at hzd
        · rename_i v hv
          have hna : zd.isAgg = false := by
            unfold ofValD at hzd
            split at hzd <;> first | (cases hzd; done) | (cases hzd; rfl) | (split at hzd <;> first | (cases hzd; done) | (cases hzd; rfl))
          have hc : zd.cells = [zd] := by cases zd <;> first | rfl | (simp [D.isAgg] at hna)
          rw [hc, ← Array.length_toList, hv]; rfl
        · cases hzd
    rw [h1, hfz.1]
  have hrun := run_make (P := P) w t e i zv hu hi hzv kl kc m q h0 hmq hby hm
  refine ⟨_, _, upd loc k (some (w.heap.size, 0)), hrun, ?_, ?_⟩
  · refine h.new k hf _ _ 0 (.ar (b := w.heap.size) (δ := 0) (fun i' j => zv.cells[j]?.getD undef) (by simp [upd]) (heap_alloc_new w _) ?_ (fun x hx => ?_) (fun i' j x y hx hy => ?_) fun i' j x y hx hy => ?_)
    · rw [size_madeCells, List.length_replicate, Nat.zero_add]; exact Nat.mul_le_mul_right _ (by omega)
    · rw [List.mem_replicate] at hx; rw [hx.2]; exact hfz
    · have hil : i' < m.toNat := by have := (List.getElem?_eq_some_iff.1 hx).1; simpa using this
      rw [List.getElem?_replicate, if_pos hil] at hx; simp only [Option.some.injEq] at hx; subst hx
      have hjl : j < i.size := by have := (List.getElem?_eq_some_iff.1 hy).1; rw [hfz.1] at this; exact this
      have hq : i' * i.size + j < q.toNat * i.size := by
        have h1 : (i' + 1) * i.size ≤ q.toNat * i.size := Nat.mul_le_mul_right _ (by omega)
        rw [Nat.add_mul] at h1; omega
      have hmod : (i' * i.size + j) % i.size = j := by rw [Nat.add_comm, Nat.add_mul_mod_self_right, Nat.mod_eq_of_lt hjl]
      simp only [Nat.zero_add, madeCells, Array.getElem?_map, Array.getElem?_range, hq, if_true, Option.map_some, hzl, hmod]
      rw [getElem!_pos zv.cells j (by omega), Array.getElem?_eq_getElem (by omega)]; rfl
    · have hil : i' < m.toNat := by have := (List.getElem?_eq_some_iff.1 hx).1; simpa using this
      rw [List.getElem?_replicate, if_pos hil] at hx; simp only [Option.some.injEq] at hx; subst hx
      have hjl : j < zv.cells.size := by have := (List.getElem?_eq_some_iff.1 hy).1; rw [hfz.1] at this; omega
      rw [Array.getElem?_eq_getElem hjl]
      exact hzr _ _ j _ y (Array.getElem?_eq_getElem hjl) hy
  · have := RepA.sl (P := P) (w := w.alloc (.cells (madeCells zv.cells (q.toNat * i.size)) e)) (ok := okOf c (w.alloc (.cells (madeCells zv.cells (q.toNat * i.size)) e)) (σ.new k (.ar i.size (List.replicate m.toNat zd))).hp (upd loc k (some (w.heap.size, 0))))
      (loc := upd loc k (some (w.heap.size, 0))) (sz := i.size) (id := k) (off := 0) (len := m.toNat) (b := w.heap.size) (δ := 0) (cap := q.toNat) (by simp [upd]) (heap_alloc_new w _) (by rw [size_madeCells]; simp) (by omega) (by unfold maxLen; omega)
    simpa using this

end
end Go.Fw
