/- append, onto nil or onto a slice of the frame's own; a store into an element. -/
import Derived.Test.YtfiipgebdcbknaaFwI
set_option linter.unusedSimpArgs false
set_option linter.unusedVariables false
namespace Go.Fw
open Go

section
variable {P : Program} {c : Ctx} {σ : AS} {ρ : Nat → Value} {w : World} {vs : List Value} {xs : List AV} {loc : Nat → Option (Nat × Nat)} {ok : Nat → Prop}

theorem run_append_more {t t2 ty e e2 : TypeId} {i : TypeInfo} {z : Value} (ht : P.underlying t = some (.slice e)) (ht2 : P.underlying t2 = some (.slice e2)) (hi : P.info? e = some i) (hz : i.zero = some z)
    {base : Option Addr} {sLen sCap n : Nat} {v2 : Value} {olds news : Array Value} (hlen : (Builtin.lenOf v2).run P w = .ok n w)
    (hold : (Builtin.firstCells i.size sLen (.slice base sLen sCap)).run P w.drew = .ok olds w.drew) (hnew : (Builtin.firstCells i.size n v2).run P w.drew = .ok news w.drew)
    (hg : sCap < sLen + n) (h63 : sLen + n ≤ maxLen) (hby : (sLen + n) * i.bytes ≤ 140737488355328) :
    (Builtin.append_ #[t, t2] ty #[.slice base sLen sCap, v2]).run P w =
      .ok (.slice (some ⟨w.heap.size, 0, none⟩) (sLen + n) (grownCap w (sLen + n) sCap e)) (w.drew.alloc (.cells (olds ++ news ++ Builtin.zeroCells z.cells (grownCap w (sLen + n) sCap e - (sLen + n))) e)) := by
  have hfit := growslice_fits hg hby
  have hn : ¬ sLen + n ≤ sCap := by omega
  have hmax : ¬ ((sLen + n : Nat) : Int) > IntKind.i64.max := by
    rw [show IntKind.i64.max = 9223372036854775807 from by decide]; unfold maxLen at h63; omega
  have hf2 : ¬ Builtin.nextslicecap (sLen + n) sCap * i.bytes > 2 ^ 48 := by
    rw [show (2 : Nat) ^ 48 = 281474976710656 from by decide]; omega
  have hforced : (Question.appendCap (sLen + n) sCap e).forced = false := rfl
  simp only [Builtin.append_, List.getElem?_toArray, List.getElem?_cons_zero, List.getElem?_cons_succ, Sem.run_bind, run_underlying' ht, Result.andThen_ok, run_sizeOf' hi, run_underlying' ht2, Sem.run_pure,
    Bool.false_eq_true, if_false, hlen, if_neg hn, typeInfo, run_program, hi, if_neg hf2, choose, Sem.run, hforced, hmax, false_and, World.drew_eq, run_askRoom, hold, Bool.not_false, if_true, hnew, zeroValue, hz, newRow, run_newObj, World.alloc_eq]
  rfl

theorem run_append_fits' {t t2 ty e e2 : TypeId} {i : TypeInfo} (ht : P.underlying t = some (.slice e)) (ht2 : P.underlying t2 = some (.slice e2)) (hi : P.info? e = some i)
    {b o sLen sCap n : Nat} {v2 : Value} {news : Array Value} (hlen : (Builtin.lenOf v2).run P w = .ok n w) (hnew : (Builtin.firstCells i.size n v2).run P w = .ok news w)
    {cur : Array Value} {T : TypeId} (hb : w.heap[b]? = some (.cells cur T (0, 0))) (h1 : ∀ u ∈ news.toList, u.oneCell' = true) (hroom : sLen + n ≤ sCap) (hfit : o + sLen * i.size + news.size ≤ cur.size) :
    (Builtin.append_ #[t, t2] ty #[.slice (some ⟨b, o, none⟩) sLen sCap, v2]).run P w =
      .ok (.slice (some ⟨b, o, none⟩) (sLen + n) sCap) (w.setRow b (splice cur (o + sLen * i.size) news.toList)) := by
  have hst := run_storeCells_at P b (o + sLen * i.size) T news.toList 0 cur w hb (by simp; omega) h1
  simp only [Nat.add_zero] at hst
  simp only [Builtin.append_, List.getElem?_toArray, List.getElem?_cons_zero, List.getElem?_cons_succ, Sem.run_bind, run_underlying' ht, Result.andThen_ok, run_sizeOf' hi, run_underlying' ht2, Sem.run_pure,
    Bool.false_eq_true, if_false, hlen, if_pos hroom, Bool.not_false, if_true, hnew, Addr.add_none, hst, splice]

theorem run_append_none {t t2 ty e e2 : TypeId} {i : TypeInfo} (ht : P.underlying t = some (.slice e)) (ht2 : P.underlying t2 = some (.slice e2)) (hi : P.info? e = some i)
    {base : Option Addr} {v2 : Value} (hlen : (Builtin.lenOf v2).run P w = .ok 0 w) (hnew : (Builtin.firstCells i.size 0 v2).run P w = .ok #[] w) :
    (Builtin.append_ #[t, t2] ty #[.slice base 0 0, v2]).run P w = .ok (.slice base 0 0) w := by
  cases base with
  | none =>
    simp only [Builtin.append_, List.getElem?_toArray, List.getElem?_cons_zero, List.getElem?_cons_succ, Sem.run_bind, run_underlying' ht, Result.andThen_ok, run_sizeOf' hi, run_underlying' ht2, Sem.run_pure,
      Bool.false_eq_true, if_false, hlen, Nat.add_zero, Nat.le_refl, if_true, Bool.not_false, hnew]
  | some a =>
    simp only [Builtin.append_, List.getElem?_toArray, List.getElem?_cons_zero, List.getElem?_cons_succ, Sem.run_bind, run_underlying' ht, Result.andThen_ok, run_sizeOf' hi, run_underlying' ht2, Sem.run_pure,
      Bool.false_eq_true, if_false, hlen, Nat.add_zero, Nat.le_refl, if_true, Bool.not_false, hnew, storeCells]

/-- The cells of elements that lie in a row. -/
theorem cells_of_row {ys : List D} {es : Nat} (hfit : ∀ y ∈ ys, y.fits es) (i j : Nat) (y z : D) (hy : ys[i]? = some y) (hz : y.cells[j]? = some z) : j < es ∧ i < ys.length ∧ i * es + j < ys.length * es := by
  have hj : j < es := by have := (List.getElem?_eq_some_iff.1 hz).1; rw [(hfit y (List.mem_of_getElem? hy)).1] at this; exact this
  have hi : i < ys.length := (List.getElem?_eq_some_iff.1 hy).1
  refine ⟨hj, hi, ?_⟩
  have : (i + 1) * es ≤ ys.length * es := Nat.mul_le_mul_right _ hi
  rw [Nat.add_mul] at this; omega

/-- The world behind an append that has grown. -/
theorem grown_blk {hp hp' : HP} (k : Nat) (e : TypeId) (es : Nat) {os ys : List D} (ho : ∀ y ∈ os, y.fits es) (hy : ∀ y ∈ ys, y.fits es) (hpos : 0 < es)
    {go gn : Nat → Value} (hgo : ∀ (i j : Nat) y z, os[i]? = some y → y.cells[j]? = some z → RepV w (okOf c w hp loc) (go (i * es + j)) z)
    (hgn : ∀ (i j : Nat) y z, ys[i]? = some y → y.cells[j]? = some z → RepV w (okOf c w hp loc) (gn (i * es + j)) z)
    (rest : Array Value) (cap : Nat) (hrest : rest.size = (cap - (os.length + ys.length)) * es) (hcap : os.length + ys.length ≤ cap) (hm : cap ≤ maxLen) {loc' : Nat → Option (Nat × Nat)} (hl' : loc' k = some (w.heap.size, 0)) :
    let w' := w.alloc (.cells (((List.range (os.length * es)).map go).toArray ++ ((List.range (ys.length * es)).map gn).toArray ++ rest) e)
    (∀ b, okOf c w hp loc b → okOf c w' hp' loc' b ∧ w'.heap[b]? = w.heap[b]?) →
    RepB P w' (okOf c w' hp' loc') loc' k (.ar es (os ++ ys)) ∧ RepA P w' (okOf c w' hp' loc') loc' (.slice (some ⟨w.heap.size, 0, none⟩) (os.length + ys.length) cap) (.sl es k 0 (os.length + ys.length)) := by
  intro w' hok'
  have hsize : (((List.range (os.length * es)).map go).toArray ++ ((List.range (ys.length * es)).map gn).toArray ++ rest).size = cap * es := by
    simp only [Array.size_append, List.size_toArray, List.length_map, List.length_range, hrest]
    rw [Nat.sub_mul, ← Nat.add_mul]
    have : (os.length + ys.length) * es ≤ cap * es := Nat.mul_le_mul_right _ hcap
    omega
  have hall : ∀ y ∈ os ++ ys, y.fits es := fun y hy' => by
    rcases List.mem_append.1 hy' with h' | h'
    · exact ho y h'
    · exact hy y h'
  have hcell : ∀ (i j : Nat) x y, (os ++ ys)[i]? = some x → x.cells[j]? = some y →
      ∃ u, (((List.range (os.length * es)).map go).toArray ++ ((List.range (ys.length * es)).map gn).toArray ++ rest)[0 + i * es + j]? = some u ∧ RepV w (okOf c w hp loc) u y := by
    intro i j x y hx hy'
    rw [Nat.zero_add]
    rw [List.getElem?_append] at hx
    by_cases hi : i < os.length
    · rw [if_pos hi] at hx
      obtain ⟨a1, a2, a3⟩ := cells_of_row ho i j x y hx hy'
      refine ⟨go (i * es + j), ?_, hgo i j x y hx hy'⟩
      rw [Array.getElem?_append, if_pos (by simp; omega), Array.getElem?_append, if_pos (by simpa using a3)]
      simp [a3]
    · rw [if_neg hi] at hx
      obtain ⟨a1, a2, a3⟩ := cells_of_row hy (i - os.length) j x y hx hy'
      have e1 : i * es + j = os.length * es + ((i - os.length) * es + j) := by
        have : i * es = os.length * es + (i - os.length) * es := by rw [← Nat.add_mul]; congr 1; omega
        omega
      refine ⟨gn ((i - os.length) * es + j), ?_, hgn _ j x y hx hy'⟩
      rw [e1, Array.getElem?_append, if_pos (by simp; omega), Array.getElem?_append, if_neg (by simp)]
      simp [a3]
  refine ⟨.ar (b := w.heap.size) (δ := 0) (fun i j => (((List.range (os.length * es)).map go).toArray ++ ((List.range (ys.length * es)).map gn).toArray ++ rest)[0 + i * es + j]?.getD undef) hl' (heap_alloc_new w _)
    (by rw [hsize, List.length_append, Nat.zero_add]; exact Nat.mul_le_mul_right _ hcap) hall (fun i j x y hx hy' => ?_) fun i j x y hx hy' => ?_, ?_⟩
  · obtain ⟨u, hu, _⟩ := hcell i j x y hx hy'
    rw [hu]; rfl
  · obtain ⟨u, hu, hr⟩ := hcell i j x y hx hy'
    rw [hu]
    exact hr.mono hok'
  · have := RepA.sl (P := P) (w := w') (ok := okOf c w' hp' loc') (loc := loc') (sz := es) (id := k) (off := 0) (len := os.length + ys.length) (b := w.heap.size) (δ := 0) (cap := cap) hl' (heap_alloc_new w _) (by rw [hsize]; simp) hcap hm
    simpa using this

/-- append onto nil. -/
theorem RepL.appendNil (h : RepL P c σ ρ w vs xs loc) (k : Nat) (hf : σ.free k) {t t2 ty : TypeId} {es by' : Nat} {e : TypeId} {q : Nat × Nat × TypeId} {ag : Bool} {n : Nat} {z : List Value} (ht : tElem P t = some (es, by', e)) (ht2 : tElem P t2 = some q) (hz : tI P e = some (ag, n, z)) (hzl : z.length = es) (hpos : 0 < es)
    {x : AV} {p : Prop} {ys : List D} (hx : srcOf σ.hp x = some (p, ys)) (hp : p) {v2 : Value} (hv2 : RepA P w (okOf c w σ.hp loc) loc v2 x) (hfit : ∀ y ∈ ys, y.fits es)
    (h63 : ys.length ≤ 9223372036854775807) (hby : ys.length * by' ≤ 140737488355328) :
    ∃ v w' loc', (Builtin.append_ #[t, t2] ty #[.slice none 0 0, v2]).run P w = .ok v w' ∧ RepL P c (σ.new k (.ar es ys)) ρ w' vs xs loc' ∧
      RepA P w' (okOf c w' (σ.new k (.ar es ys)).hp loc') loc' v (.sl es k 0 ys.length) := by
  obtain ⟨hu, i, hi, rfl, rfl⟩ := tElem_und ht
  obtain ⟨q1, q2, q3⟩ := q
  obtain ⟨hu2, _⟩ := tElem_und ht2
  obtain ⟨i', zv, hi', hzv, hsz, rfl⟩ := tI_zero hz
  rw [hi] at hi'; simp only [Option.some.injEq] at hi'; subst hi'
  have hE := ExtW.drew w
  have h' := h.ext' hE
  obtain ⟨l1, g1, g2, g3⟩ := src_cells h hx hp hv2 i.size hfit
  replace g2 := g2 _ (Nat.le_refl _)
  rcases Nat.eq_zero_or_pos ys.length with h0 | h0
  · rw [h0] at l1
    rw [h0, Nat.zero_mul] at g2
    have hys : ys = [] := List.length_eq_zero_iff.1 h0
    subst hys
    exact ⟨_, _, _, run_append_none hu hu2 hi l1 g2, h.adopt k hf i.size, .sl0 _ _ _ _⟩
  · obtain ⟨_, g1', g2', g3'⟩ := src_cells h' hx hp (hv2.mono (okOf.step hE) (Shapes.of_ext hE)) i.size hfit
    replace g2' := g2' _ (Nat.le_refl _)
    have hold : (Builtin.firstCells i.size 0 (.slice none 0 0)).run P w.drew = .ok #[] w.drew := by simp [Builtin.firstCells]
    have hrun := run_append_more (ty := ty) hu hu2 hi hzv l1 hold g2' (by omega) (by unfold maxLen; omega) (by simpa using hby)
    simp only [Nat.zero_add] at hrun
    have hcap := grownCap_ge w ys.length 0 e
    have hcm := grownCap_le_maxLen w ys.length 0 e (by unfold maxLen; omega)
    have hg := grown_blk (P := P) (c := c) (w := w.drew) (loc := loc) (hp := σ.hp) (hp' := (σ.new k (.ar i.size ys)).hp) k e i.size (os := []) (by simp) hfit hpos (go := fun _ => undef) (by simp) g3' (Builtin.zeroCells zv.cells (grownCap w ys.length 0 e - ys.length)) (grownCap w ys.length 0 e)
      (by rw [size_zeroCells]; simp at hzl ⊢; rw [hzl]) (by simpa using hcap) hcm (loc' := upd loc k (some (w.heap.size, 0))) (by simp [upd]) fun b hb => ok_new h' hf _ 0 b hb
    simp only [List.length_nil, Nat.zero_mul, List.range_zero, List.map_nil, List.nil_append, Nat.zero_add] at hg
    exact ⟨_, _, upd loc k (some (w.heap.size, 0)), hrun, h'.new k hf _ _ 0 hg.1, hg.2⟩

/-- append onto a slice of the frame's own. -/
theorem RepL.append (h : RepL P c σ ρ w vs xs loc) {k off len : Nat} (h100 : 100 ≤ k) {zs : List D} {t t2 ty : TypeId} {es by' : Nat} {e : TypeId} {q : Nat × Nat × TypeId} {ag : Bool} {n : Nat} {z : List Value} (ht : tElem P t = some (es, by', e)) (ht2 : tElem P t2 = some q) (hz : tI P e = some (ag, n, z)) (hzl : z.length = es) (hpos : 0 < es)
    (hk : σ.hp.heap k = some (.ar es zs)) (hlen : off + len = zs.length) {v1 : Value} (hv1 : RepA P w (okOf c w σ.hp loc) loc v1 (.sl es k off len))
    {x : AV} {p : Prop} {ys : List D} (hx : srcOf σ.hp x = some (p, ys)) (hp : p) {v2 : Value} (hv2 : RepA P w (okOf c w σ.hp loc) loc v2 x) (hfit : ∀ y ∈ ys, y.fits es)
    (h63 : len + ys.length ≤ 9223372036854775807) (hby : (len + ys.length) * by' ≤ 140737488355328) :
    ∃ v w' loc', (Builtin.append_ #[t, t2] ty #[v1, v2]).run P w = .ok v w' ∧ RepL P c (σ.renew k (.ar es (zs.drop off ++ ys))) ρ w' vs (xs.map (AV.kill k)) loc' ∧
      RepA P w' (okOf c w' (σ.renew k (.ar es (zs.drop off ++ ys))).hp loc') loc' v (.sl es k 0 (len + ys.length)) := by
  obtain ⟨hu, i, hi, rfl, rfl⟩ := tElem_und ht
  obtain ⟨q1, q2, q3⟩ := q
  obtain ⟨hu2, _⟩ := tElem_und ht2
  obtain ⟨i', zv, hi', hzv, hsz, rfl⟩ := tI_zero hz
  rw [hi] at hi'; simp only [Option.some.injEq] at hi'; subst hi'
  have hE := ExtW.drew w
  have h' := h.ext' hE
  obtain ⟨l1, g1, g2, g3⟩ := src_cells h hx hp hv2 i.size hfit
  replace g2 := g2 _ (Nat.le_refl _)
  have hol : (zs.drop off).length = len := by simp; omega
  have hku : σ.used k = true := h.liveU k (by simp [Live, hk])
  have hsrc : srcOf σ.hp (.sl i.size k off len) = some (i.size = i.size ∧ off + len ≤ zs.length, (zs.drop off).take len) := by simp only [srcOf, hk]
  have htake : (zs.drop off).take len = zs.drop off := List.take_of_length_le (by omega)
  rw [htake] at hsrc
  have hzfit : ∀ y ∈ zs, y.fits i.size := by
    cases h.heap k _ hk with
    | ar0 _ _ => simp
    | ar us _ _ _ hs _ _ => exact hs
  have hofit : ∀ y ∈ zs.drop off, y.fits i.size := fun y hy => hzfit y (List.mem_of_mem_drop hy)
  have grow : ∀ (base : Option Addr) (cap : Nat), v1 = .slice base len cap → cap < len + ys.length → ∃ v w' loc', (Builtin.append_ #[t, t2] ty #[v1, v2]).run P w = .ok v w' ∧ RepL P c (σ.renew k (.ar i.size (zs.drop off ++ ys))) ρ w' vs (xs.map (AV.kill k)) loc' ∧
      RepA P w' (okOf c w' (σ.renew k (.ar i.size (zs.drop off ++ ys))).hp loc') loc' v (.sl i.size k 0 (len + ys.length)) := by
    intro base cap hv hcap'
    obtain ⟨_, go, o2, o3⟩ := src_cells h' hsrc ⟨rfl, by omega⟩ (hv1.mono (okOf.step hE) (Shapes.of_ext hE)) i.size hofit
    replace o2 := o2 _ (Nat.le_refl _)
    obtain ⟨_, g1', g2', g3'⟩ := src_cells h' hx hp (hv2.mono (okOf.step hE) (Shapes.of_ext hE)) i.size hfit
    replace g2' := g2' _ (Nat.le_refl _)
    rw [hol, hv] at o2
    have hrun := run_append_more (ty := ty) hu hu2 hi hzv l1 o2 g2' hcap' (by unfold maxLen; omega) hby
    have hcap := grownCap_ge w (len + ys.length) cap e
    have hcm := grownCap_le_maxLen w (len + ys.length) cap e (by unfold maxLen; omega)
    have hg := grown_blk (P := P) (c := c) (w := w.drew) (loc := loc) (hp := σ.hp) (hp' := (σ.renew k (.ar i.size (zs.drop off ++ ys))).hp) k e i.size hofit hfit hpos o3 g3' (Builtin.zeroCells zv.cells (grownCap w (len + ys.length) cap e - (len + ys.length))) (grownCap w (len + ys.length) cap e)
      (by rw [size_zeroCells, hol]; simp at hzl ⊢; rw [hzl]) (by rw [hol]; exact hcap) hcm (loc' := upd loc k (some (w.heap.size, 0))) (by simp [upd]) fun b hb => ok_renew h' _ 0 b hb
    rw [hol] at hg
    subst hv
    exact ⟨_, _, upd loc k (some (w.heap.size, 0)), hrun, h'.renew k h100 hku _ _ 0 hg.1, hg.2⟩
  cases hv1 with
  | sl0 base =>
    simp only [Nat.add_zero] at hlen
    rcases Nat.eq_zero_or_pos ys.length with h0 | h0
    · have hys : ys = [] := List.length_eq_zero_iff.1 h0
      have hz0 : zs.drop off = [] := List.drop_of_length_le (by omega)
      subst hys
      rw [h0] at l1
      rw [h0, Nat.zero_mul] at g2
      rw [hz0, List.nil_append]
      exact ⟨_, _, _, run_append_none hu hu2 hi l1 g2, h.readopt k h100 hku i.size, .sl0 _ _ _ _⟩
    · exact grow base 0 rfl (by omega)
  | @sl _ _ _ _ b δ cap cur T fz hl hh hcap hlen' hm =>
    by_cases hroom : len + ys.length ≤ cap
    · cases h.heap k _ hk with
      | ar0 _ hl' => rw [hl] at hl'; cases hl'
      | @ar b' δ' cur' T' _ _ us hl' hb' hzz hs hc hu' =>
        rw [hl] at hl'; simp only [Option.some.injEq, Prod.mk.injEq] at hl'; obtain ⟨rfl, rfl⟩ := hl'
        rw [hh] at hb'; simp only [Option.some.injEq, Obj.cells.injEq] at hb'; obtain ⟨rfl, rfl, rfl⟩ := hb'
        have hone : ∀ u ∈ (((List.range (ys.length * i.size)).map g1).toArray).toList, u.oneCell' = true := fun u hu1 => by
          simp only [List.mem_map, List.mem_range] at hu1
          obtain ⟨r, hr, rfl⟩ := hu1
          have hi' : r / i.size < ys.length := (Nat.div_lt_iff_lt_mul hpos).2 hr
          have hjl : r % i.size < (ys[r / i.size]).cells.length := by rw [(hfit _ (List.getElem_mem _)).1]; exact Nat.mod_lt _ hpos
          have := g3 _ _ _ _ (List.getElem?_eq_getElem hi') (List.getElem?_eq_getElem hjl)
          have he : r / i.size * i.size + r % i.size = r := by rw [Nat.mul_comm]; exact Nat.div_add_mod r i.size
          rw [he] at this
          exact this.one1 ((hfit _ (List.getElem_mem hi')).2 _ (List.getElem_mem _))
        have hns : (((List.range (ys.length * i.size)).map g1).toArray).size = ys.length * i.size := by simp
        have hfits : δ + off * i.size + len * i.size + ys.length * i.size ≤ cur.size := by
          have : (off + (len + ys.length)) * i.size ≤ (off + cap) * i.size := Nat.mul_le_mul_right _ (by omega)
          rw [Nat.add_mul, Nat.add_mul] at this; omega
        have hrun := run_append_fits' (ty := ty) hu hu2 hi l1 g2 hh hone hroom (by rw [hns]; exact hfits)
        have hsp : δ + off * i.size + len * i.size + (((List.range (ys.length * i.size)).map g1).toArray).toList.length ≤ cur.size := by simpa using hfits
        have hlive : Live σ.hp k := by simp [Live, hk]
        have hsh := setRow_shapes (w := w) (cur' := splice cur (δ + off * i.size + len * i.size) (((List.range (ys.length * i.size)).map g1).toArray).toList) hh (splice_size hsp)
        refine ⟨_, _, upd loc k (some (b, δ + off * i.size)), hrun, ?_, ?_⟩
        · refine h.rewrite k h100 b δ (δ + off * i.size) _ hlive hl hsh ⟨rfl, rfl, rfl⟩ (setRow_size b _) (fun n hn => setRow_other hn) fun hk' => ?_
          have hcell : ∀ (a j : Nat) x y, (zs.drop off ++ ys)[a]? = some x → x.cells[j]? = some y →
              ∃ u, (splice cur (δ + off * i.size + len * i.size) (((List.range (ys.length * i.size)).map g1).toArray).toList)[δ + off * i.size + a * i.size + j]? = some u ∧ RepV w (okOf c w σ.hp loc) u y := by
            intro a j x y hx' hy'
            rw [List.getElem?_append, hol] at hx'
            by_cases ha : a < len
            · rw [if_pos ha] at hx'
              obtain ⟨a1, a2, a3⟩ := cells_of_row hofit a j x y hx' hy'
              rw [hol] at a3
              rw [List.getElem?_drop] at hx'
              have hcc := hc _ _ _ _ hx' hy'
              rw [Nat.add_mul] at hcc
              refine ⟨_, ?_, hu' _ _ _ _ hx' hy'⟩
              rw [splice_get hsp, if_neg (by omega), ← hcc]
              congr 1; omega
            · rw [if_neg ha] at hx'
              obtain ⟨a1, a2, a3⟩ := cells_of_row hfit (a - len) j x y hx' hy'
              have e1 : a * i.size = len * i.size + (a - len) * i.size := by rw [← Nat.add_mul]; congr 1; omega
              refine ⟨g1 ((a - len) * i.size + j), ?_, g3 _ j x y hx' hy'⟩
              rw [splice_get hsp, if_pos (by simp; omega)]
              rw [show δ + off * i.size + a * i.size + j - (δ + off * i.size + len * i.size) = (a - len) * i.size + j by omega]
              simp [a3]
          refine .ar (b := b) (δ := δ + off * i.size) (fun a j => (splice cur (δ + off * i.size + len * i.size) (((List.range (ys.length * i.size)).map g1).toArray).toList)[δ + off * i.size + a * i.size + j]?.getD undef)
            (by simp [upd]) (setRow_same hh) ?_ (fun y hy => ?_) (fun a j x y hx' hy' => ?_) fun a j x y hx' hy' => ?_
          · rw [splice_size hsp, List.length_append, hol, Nat.add_mul]; omega
          · rcases List.mem_append.1 hy with h1 | h1
            · exact hofit y h1
            · exact hfit y h1
          · obtain ⟨u, hu1, _⟩ := hcell a j x y hx' hy'
            rw [hu1]; rfl
          · obtain ⟨u, hu1, hr⟩ := hcell a j x y hx' hy'
            rw [hu1]
            exact hr.mono hk'
        · have := RepA.sl (P := P) (w := w.setRow b (splice cur (δ + off * i.size + len * i.size) (((List.range (ys.length * i.size)).map g1).toArray).toList)) (ok := okOf c (w.setRow b (splice cur (δ + off * i.size + len * i.size) (((List.range (ys.length * i.size)).map g1).toArray).toList)) (σ.renew k (.ar i.size (zs.drop off ++ ys))).hp (upd loc k (some (b, δ + off * i.size))))
            (loc := upd loc k (some (b, δ + off * i.size))) (sz := i.size) (id := k) (off := 0) (len := len + ys.length) (b := b) (δ := δ + off * i.size) (cap := cap) (by simp [upd]) (setRow_same hh) (by rw [splice_size hsp, Nat.zero_add]; rw [Nat.add_mul] at hcap; omega) hroom hm
          simpa using this
    · exact grow _ _ rfl (by omega)

/-- A store into an element of a slice of the frame's own: 'y' is the element afterwards. -/
theorem RepL.storeElem (h : RepL P c σ ρ w vs xs loc) {k i o es : Nat} {zs : List D} (hk : σ.hp.heap k = some (.ar es zs)) {va v : Value} (ha : RepA P w (okOf c w σ.hp loc) loc va (.ep es k i o))
    {t : TypeId} {ag : Bool} {n : Nat} {z : List Value} (ht : tI P t = some (ag, n, z)) {x : AV} (hx : RepA P w (okOf c w σ.hp loc) loc v x)
    {p : Prop} {dx : D} {l : List Nat} (hd : toD σ.hp x = some (p, dx, l)) (hp : p) (hkl : k ∉ l) (hi : i < zs.length) (hpos : 0 < es) (hn : dx.fits n) {old y : D} (hold : zs[i]? = some old) (hon : o + n ≤ es) (hy : y.fits es)
    (hcy : ∀ j z, y.cells[j]? = some z → (o ≤ j ∧ j < o + n ∧ dx.cells[j - o]? = some z) ∨ (¬ (o ≤ j ∧ j < o + n) ∧ old.cells[j]? = some z)) :
    ∃ w', (Instr.storeAt t va v).run P w = .ok () w' ∧ RepL P c { σ with hp := (σ.hp.dropL l).set k (.ar es (zs.set i y)) } ρ w' vs xs loc := by
  cases ha with | @ep _ _ _ _ b δ hl =>
  have hdx := toD_rep h hd hp hx (l' := l) fun i hi => hi
  have h2 := RepL.dropL l h
  have hk2 : (σ.hp.dropL l).heap k = some (.ar es zs) := by rw [dropL_heap, if_neg hkl]; exact hk
  have hlive : Live (σ.hp.dropL l) k := by simp [Live, hk2]
  cases h2.heap k _ hk2 with
  | ar0 _ _ => simp at hi
  | @ar b' δ' cur T _ _ us hl' hh hz hs hc hu =>
    rw [hl] at hl'; simp only [Option.some.injEq, Prod.mk.injEq] at hl'; obtain ⟨rfl, rfl⟩ := hl'
    obtain ⟨c1, c2⟩ := hdx.cells
    have hvs : v.cells.size = n := by rw [c1, hn.1]
    have hend : δ + i * es + o + n ≤ cur.size := by
      have : (i + 1) * es ≤ zs.length * es := Nat.mul_le_mul_right _ hi
      rw [Nat.add_mul] at this; omega
    have hone : ∀ u ∈ v.cells.toList, u.oneCell' = true := fun u hu1 => by
      obtain ⟨j, hj, rfl⟩ := List.getElem_of_mem hu1
      simp only [Array.length_toList] at hj
      rw [Array.getElem_toList]
      exact (c2 j _ (dx.cells[j]'(by omega)) (Array.getElem?_eq_getElem hj) (List.getElem?_eq_getElem (by omega))).one1 (hn.2 _ (List.getElem_mem _))
    have hst := run_storeCells_at P b (δ + i * es + o) T v.cells.toList 0 cur w hh (by simp; omega) hone
    obtain ⟨_, hsz, _⟩ := tI_runs (w := w) ht
    simp only [Nat.add_zero] at hst
    have hsp : δ + i * es + o + v.cells.toList.length ≤ cur.size := by simp; omega
    refine ⟨w.setRow b (splice cur (δ + i * es + o) v.cells.toList), ?_, ?_⟩
    · simp only [Instr.storeAt, Instr.sureAddr, Sem.run_bind, Sem.run_pure, Result.andThen_ok, storeVar, hsz]
      rw [if_neg (by simp; omega)]
      simp only [Sem.run_bind, Sem.run_pure, Result.andThen_ok, hst, splice]
    · have hsh := setRow_shapes (w := w) (cur' := splice cur (δ + i * es + o) v.cells.toList) hh (splice_size hsp)
      refine h2.write k b δ _ hlive hl hsh ⟨rfl, rfl, rfl⟩ (setRow_size b _) (fun m hm => setRow_other hm) fun hk' => ?_
      have hcell : ∀ (a j : Nat) x' y', (zs.set i y)[a]? = some x' → x'.cells[j]? = some y' →
          ∃ u, (splice cur (δ + i * es + o) v.cells.toList)[δ + a * es + j]? = some u ∧ RepV w (okOf c w (σ.hp.dropL l) loc) u y' := by
        intro a j x' y' hx' hy'
        have hzf : ∀ x ∈ zs.set i y, x.fits es := fun x hx1 => by
          rcases List.mem_or_eq_of_mem_set hx1 with h1 | h1
          · exact hs x h1
          · rw [h1]; exact hy
        obtain ⟨a1, a2, a3⟩ := cells_of_row hzf a j x' y' hx' hy'
        by_cases hai : a = i
        · subst hai
          rw [List.getElem?_set_self hi] at hx'
          simp only [Option.some.injEq] at hx'; subst hx'
          rcases hcy j y' hy' with ⟨g1, g2, g3⟩ | ⟨g1, g2⟩
          · have hjl : j - o < v.cells.size := by omega
            refine ⟨v.cells[j - o], ?_, c2 _ _ _ (Array.getElem?_eq_getElem hjl) g3⟩
            rw [splice_get hsp, if_pos (by simp; omega), show δ + a * es + j - (δ + a * es + o) = j - o by omega, Array.getElem?_toList, Array.getElem?_eq_getElem hjl]
          · refine ⟨us a j, ?_, hu a j old y' hold g2⟩
            rw [splice_get hsp, if_neg (by simp; omega)]
            exact hc a j old y' hold g2
        · rw [List.getElem?_set_ne (Ne.symm hai)] at hx'
          refine ⟨us a j, ?_, hu a j x' y' hx' hy'⟩
          rw [splice_get hsp, if_neg ?_]
          · exact hc a j x' y' hx' hy'
          · simp only [Array.length_toList, hvs]
            rcases Nat.lt_or_gt_of_ne hai with h1 | h1
            · have : (a + 1) * es ≤ i * es := Nat.mul_le_mul_right _ h1
              rw [Nat.add_mul] at this; omega
            · have : (i + 1) * es ≤ a * es := Nat.mul_le_mul_right _ h1
              rw [Nat.add_mul] at this; omega
      refine .ar (b := b) (δ := δ) (fun a j => (splice cur (δ + i * es + o) v.cells.toList)[δ + a * es + j]?.getD undef) hl (setRow_same hh) (by rw [splice_size hsp, List.length_set]; exact hz) (fun x' hx' => ?_) (fun a j x' y' hx' hy' => ?_) fun a j x' y' hx' hy' => ?_
      · rcases List.mem_or_eq_of_mem_set hx' with h1 | h1
        · exact hs x' h1
        · rw [h1]; exact hy
      · obtain ⟨u, hu1, _⟩ := hcell a j x' y' hx' hy'
        rw [hu1]; rfl
      · obtain ⟨u, hu1, hr⟩ := hcell a j x' y' hx' hy'
        rw [hu1]
        exact hr.mono hk'

/-- A row of one-cell elements, with some of them written over. -/
theorem RepL.copy (h : RepL P c σ ρ w vs xs loc) {k off dl : Nat} {zs : List D} (hk : σ.hp.heap k = some (.ar 1 zs)) {v1 v2 : Value} (ha : RepA P w (okOf c w σ.hp loc) loc v1 (.sl 1 k off dl)) (hin : off + dl ≤ zs.length)
    {t t2 ty : TypeId} {by' : Nat} {e : TypeId} (ht : tElem P t = some (1, by', e)) {x : AV} {p : Prop} {ys : List D} (hx : srcOf σ.hp x = some (p, ys)) (hp : p) (hv2 : RepA P w (okOf c w σ.hp loc) loc v2 x) (hfit : ∀ y ∈ ys, y.isAgg = false) (hpos : 0 < min ys.length dl) :
    ∃ w', (Builtin.copy_ #[t, t2] ty #[v1, v2]).run P w = .ok (.int .i64 ((min ys.length dl : Nat) : Int)) w' ∧ RepL P c { σ with hp := σ.hp.set k (.ar 1 (zs.take off ++ ys.take (min ys.length dl) ++ zs.drop (off + min ys.length dl))) } ρ w' vs xs loc := by
  obtain ⟨hu, i, hi, hi1, rfl⟩ := tElem_und ht
  have hcell : ∀ y : D, y.isAgg = false → y.cells = [y] := fun y hy => by cases y <;> first | rfl | (simp [D.isAgg] at hy)
  have hfit1 : ∀ y ∈ ys, y.fits 1 := fun y hy => by
    have h1 := hcell y (hfit y hy)
    exact ⟨by rw [h1]; rfl, fun z hz => by rw [h1] at hz; simp at hz; subst hz; exact hfit _ hy⟩
  obtain ⟨l1, g, hg, hr⟩ := src_cells h hx hp hv2 1 hfit1
  have hlive : Live σ.hp k := by simp [Live, hk]
  generalize hn : min ys.length dl = n at hpos ⊢
  have hn1 : n ≤ ys.length := by omega
  have hn2 : n ≤ dl := by omega
  cases ha with
  | sl0 _ _ _ _ => omega
  | @sl _ _ _ _ b δ cap c0 T0 fz0 hl hb0 hcap hlen hm =>
  cases h.heap k _ hk with
  | ar0 _ _ => simp at hin; omega
  | @ar b' δ' cur T _ _ us hl' hh hz hs hc hu2 =>
    rw [hl] at hl'; simp only [Option.some.injEq, Prod.mk.injEq] at hl'; obtain ⟨rfl, rfl⟩ := hl'
    have hgn := hg n hn1
    simp only [Nat.mul_one] at hgn hz hc
    have hval : ∀ q, q < n → ∃ z, ys[q]? = some z ∧ RepV w (okOf c w σ.hp loc) (g q) z ∧ z.isAgg = false := fun q hq => by
      have hq' : q < ys.length := by omega
      have ha := hfit ys[q] (List.getElem_mem hq')
      have := hr q 0 ys[q] ys[q] (List.getElem?_eq_getElem hq') (by rw [hcell _ ha]; rfl)
      simp only [Nat.mul_one, Nat.add_zero] at this
      exact ⟨_, List.getElem?_eq_getElem hq', this, ha⟩
    have hone : ∀ u ∈ (List.range n).map g, u.oneCell' = true := fun u hu1 => by
      simp only [List.mem_map, List.mem_range] at hu1
      obtain ⟨q, hq, rfl⟩ := hu1
      obtain ⟨z, _, h2, h3⟩ := hval q hq
      exact h2.one1 h3
    have hst := run_storeCells_at P b (δ + off * 1) T ((List.range n).map g) 0 cur w hh (by simp; omega) hone
    simp only [Nat.add_zero, Nat.mul_one] at hst
    have hsp : δ + off * 1 + ((List.range n).map g).length ≤ cur.size := by simp; omega
    refine ⟨w.setRow b (splice cur (δ + off * 1) ((List.range n).map g)), ?_, ?_⟩
    · have hmin : Nat.min ys.length dl = n := hn
      simp [Builtin.copy_, run_underlying' hu, l1, run_sizeOf' hi, hi1, hmin, hgn, hst, splice, goInt]
    · have hsh := setRow_shapes (w := w) (cur' := splice cur (δ + off * 1) ((List.range n).map g)) hh (splice_size hsp)
      refine h.write k b δ _ hlive hl hsh ⟨rfl, rfl, rfl⟩ (setRow_size b _) (fun m hm => setRow_other hm) fun hk' => ?_
      have hlen' : (zs.take off ++ ys.take n ++ zs.drop (off + n)).length = zs.length := by simp; omega
      have hget : ∀ (a : Nat), (zs.take off ++ ys.take n ++ zs.drop (off + n))[a]? = if off ≤ a ∧ a < off + n then ys[a - off]? else zs[a]? := fun a => by
        have e1 : (zs.take off).length = off := by simp; omega
        have e2 : (ys.take n).length = n := by simp; omega
        rw [List.append_assoc, List.getElem?_append, e1]
        by_cases h1 : a < off
        · rw [if_pos h1, if_neg (by omega), List.getElem?_take, if_pos h1]
        · rw [if_neg h1, List.getElem?_append, e2]
          by_cases h2 : a - off < n
          · rw [if_pos h2, if_pos (by omega), List.getElem?_take, if_pos h2]
          · rw [if_neg h2, if_neg (by omega), List.getElem?_drop]
            congr 1; omega
      have hfz : ∀ x' ∈ zs.take off ++ ys.take n ++ zs.drop (off + n), x'.fits 1 := fun x' hx' => by
        simp only [List.mem_append] at hx'
        rcases hx' with (h1 | h1) | h1
        · exact hs _ (List.mem_of_mem_take h1)
        · exact hfit1 _ (List.mem_of_mem_take h1)
        · exact hs _ (List.mem_of_mem_drop h1)
      have hcell2 : ∀ (a j : Nat) x' y', (zs.take off ++ ys.take n ++ zs.drop (off + n))[a]? = some x' → x'.cells[j]? = some y' →
          ∃ u, (splice cur (δ + off * 1) ((List.range n).map g))[δ + a * 1 + j]? = some u ∧ RepV w (okOf c w σ.hp loc) u y' := by
        intro a j x' y' hx' hy'
        have hj : j < 1 := by have := (List.getElem?_eq_some_iff.1 hy').1; rw [(hfz x' (List.mem_of_getElem? hx')).1] at this; exact this
        have hj0 : j = 0 := by omega
        subst hj0
        rw [hget] at hx'
        rw [splice_get hsp]
        by_cases ha : off ≤ a ∧ a < off + n
        · rw [if_pos ha] at hx'
          obtain ⟨z, h1, h2, h3⟩ := hval (a - off) (by omega)
          rw [h1] at hx'; cases hx'
          rw [hcell _ h3] at hy'
          simp at hy'; subst hy'
          refine ⟨g (a - off), ?_, h2⟩
          rw [if_pos (by simp; omega)]
          have : δ + a * 1 + 0 - (δ + off * 1) = a - off := by omega
          rw [this, List.getElem?_map, List.getElem?_range (by omega)]
          rfl
        · rw [if_neg ha] at hx'
          refine ⟨us a 0, ?_, hu2 a 0 x' y' hx' hy'⟩
          rw [if_neg (by simp; omega)]
          have := hc a 0 x' y' hx' hy'
          simpa using this
      refine .ar (b := b) (δ := δ) (fun a j => (splice cur (δ + off * 1) ((List.range n).map g))[δ + a * 1 + j]?.getD undef) hl (setRow_same hh) (by rw [splice_size hsp, hlen']; omega) hfz (fun a j x' y' hx' hy' => ?_) fun a j x' y' hx' hy' => ?_
      · obtain ⟨u, hu1, _⟩ := hcell2 a j x' y' hx' hy'
        rw [hu1]; rfl
      · obtain ⟨u, hu1, hr⟩ := hcell2 a j x' y' hx' hy'
        rw [hu1]
        exact hr.mono hk'

end
end Go.Fw
