/- From a law's input, as the claim's form speaks of it, to data; and back. -/
import Derived.Test.YteenfgdemklhcaaFwb
import Derived.ProofKit
set_option linter.unusedSimpArgs false
set_option linter.unusedVariables false
namespace Go.Fw
open Go Go.ChangeShapes Go.WideShapes Go.ChangeAt Go.RowKit

inductive Shape where
  | int (k : IntKind)
  | str
  | bool
  | list (sz : Nat) (e : Shape)
  | agg (fs : List Shape)

def Shape.isAgg : Shape → Bool
  | .agg _ => true
  | _ => false

/-- The datum has the shape. -/
inductive Typ : Shape → D → Prop where
  | int {k : IntKind} {n : Int} : (Lit.int k n).wf = true → Typ (.int k) (.int k n)
  | str {s : List UInt8} : s.length ≤ maxLen → Typ .str (.str s)
  | bool {b : Bool} : Typ .bool (.bool b)
  | list {sz : Nat} {e : Shape} {xs : List D} : xs.length ≤ maxLen → (∀ x ∈ xs, Typ e x) → Typ (.list sz e) (.list xs)
  | agg {fs : List Shape} {cs : List D} : cs.length = fs.length → (∀ (i : Nat) f c, fs[i]? = some f → cs[i]? = some c → Typ f c) → Typ (.agg fs) (.agg cs)

theorem Typ.isAgg {sh : Shape} {x : D} (h : Typ sh x) : x.isAgg = sh.isAgg := by cases h <;> rfl

/-- The type has the shape. -/
inductive IsSh (P : Program) : TypeId → Shape → Prop where
  | int {t : TypeId} {k : IntKind} : P.underlying t = some (.int k) → IsSh P t (.int k)
  | str {t : TypeId} : P.underlying t = some .string → IsSh P t .str
  | bool {t : TypeId} : P.underlying t = some .bool → IsSh P t .bool
  | list {t e : TypeId} {n : Nat} {sh : Shape} : P.underlying t = some (.slice e) → P.cellsOf e = n → 0 < n → IsSh P e sh → IsSh P t (.list n sh)
  | agg {t : TypeId} {fs : Array Field} {shs : List Shape} : P.underlying t = some (.struct fs) → fs.size = shs.length → P.cellsOf t = shs.length →
      (∀ (i : Nat) f, fs[i]? = some f → f.offset = i ∧ P.cellsOf f.type = 1) → (∀ sh ∈ shs, sh.isAgg = false) → (∀ (i : Nat) f sh, fs[i]? = some f → shs[i]? = some sh → IsSh P f.type sh) → IsSh P t (.agg shs)

/-- Has the type the shape? -/
def shB (P : Program) : Nat → TypeId → Shape → Bool
  | 0, _, _ => false
  | n + 1, t, sh => match P.underlying t, sh with
    | some (.int k), .int k' => decide (k = k')
    | some .string, .str => true
    | some .bool, .bool => true
    | some (.slice e), .list sz s => P.cellsOf e == sz && decide (0 < sz) && shB P n e s
    | some (.struct fs), .agg shs => fs.size == shs.length && P.cellsOf t == shs.length && shs.all (fun s => !s.isAgg) &&
        (List.range fs.size).all fun i => match fs[i]?, shs[i]? with
          | some f, some s => f.offset == i && P.cellsOf f.type == 1 && shB P n f.type s
          | _, _ => false
    | _, _ => false

theorem shB_sound {P : Program} : ∀ (n : Nat) {t : TypeId} {sh : Shape}, shB P n t sh = true → IsSh P t sh
  | 0, _, _, h => by cases h
  | n + 1, t, sh, h => by
    unfold shB at h
    split at h <;> first | (cases h; done) | skip
    · rename_i k k' ht
      simp only [decide_eq_true_eq] at h; subst h
      exact .int ht
    · rename_i ht; exact .str ht
    · rename_i ht; exact .bool ht
    · rename_i e sz s ht
      simp only [Bool.and_eq_true, beq_iff_eq, decide_eq_true_eq] at h
      exact .list ht h.1.1 h.1.2 (shB_sound n h.2)
    · rename_i fs shs ht
      simp only [Bool.and_eq_true, beq_iff_eq, List.all_eq_true, List.mem_range, Bool.not_eq_true'] at h
      obtain ⟨⟨⟨h1, h2⟩, h3⟩, h4⟩ := h
      have get : ∀ (i : Nat) f s, fs[i]? = some f → shs[i]? = some s → f.offset = i ∧ P.cellsOf f.type = 1 ∧ shB P n f.type s = true := fun i f s hf hs => by
        have := h4 i (Array.getElem?_eq_some_iff.1 hf).1
        rw [hf, hs] at this
        simp only [Bool.and_eq_true, beq_iff_eq] at this
        exact ⟨this.1.1, this.1.2, this.2⟩
      refine .agg ht h1 h2 (fun i f hf => ?_) h3 fun i f s hf hs => shB_sound n (get i f s hf hs).2.2
      have hi : i < shs.length := by have := (Array.getElem?_eq_some_iff.1 hf).1; omega
      obtain ⟨g1, g2, _⟩ := get i f shs[i] hf (List.getElem?_eq_getElem hi)
      exact ⟨g1, g2⟩

theorem exists_list {p : Nat → D → Prop} : ∀ (n : Nat), (∀ i, i < n → ∃ x, p i x) → ∃ xs : List D, xs.length = n ∧ ∀ (i : Nat) x, xs[i]? = some x → p i x
  | 0, _ => ⟨[], rfl, fun i x h => by simp at h⟩
  | n + 1, h => by
    obtain ⟨xs, h1, h2⟩ := exists_list n fun i hi => h i (by omega)
    obtain ⟨y, hy⟩ := h n (by omega)
    refine ⟨xs ++ [y], by simp [h1], fun i x hx => ?_⟩
    rw [List.getElem?_append] at hx
    split at hx
    · exact h2 i x hx
    · rename_i hi
      have : i = n := by
        have := (List.getElem?_eq_some_iff.1 hx).1
        simp at this; omega
      subst this
      rw [← h1, Nat.sub_self] at hx
      simp at hx; subst hx; exact hy

variable {H : Type} {enc : TypeId × Value → H} {P : Program} {w : World} {spare : Nat → Bool} {held : Bool}

def inH (w : World) (b : Nat) : Prop := b < w.heap.size

theorem trod_data {t : TypeId} {sh : Shape} (hs : IsSh P t sh) : ∀ (fuel : Nat) (cs : List Value) (d : DataW H) (ps : List MemPlace), DataW.trod enc P w 0 spare held fuel t cs = some (d, ps) →
    ∃ x, Typ sh x ∧ x.cells.length = cs.length ∧ ∀ (i : Nat) v y, cs[i]? = some v → x.cells[i]? = some y → RepV w (inH w) v y := by
  induction hs with
  | @int t k ht =>
    intro fuel cs d ps h
    cases fuel with
    | zero => cases h
    | succ m =>
      unfold DataW.trod at h
      rw [ht] at h
      split at h <;> simp_all
      rename_i k' n hk
      obtain ⟨⟨rfl, hw⟩, _⟩ := h
      refine ⟨.int _ n, .int hw, rfl, fun i v y hv hy => ?_⟩
      cases i with
      | zero => simp [D.cells] at hv hy; subst hv; subst hy; exact .int _ n
      | succ i => simp at hv
  | @str t ht =>
    intro fuel cs d ps h
    cases fuel with
    | zero => cases h
    | succ m =>
      unfold DataW.trod at h
      rw [ht] at h
      split at h <;> simp_all
      rename_i s
      refine ⟨.str s.data.toList, .str (by rw [Array.length_toList]; exact h.1), rfl, fun i v y hv hy => ?_⟩
      cases i with
      | zero => simp [D.cells] at hv hy; subst hv; subst hy; exact .str s.data.toList
      | succ i => simp at hv
  | @bool t ht =>
    intro fuel cs d ps h
    cases fuel with
    | zero => cases h
    | succ m =>
      unfold DataW.trod at h
      rw [ht] at h
      split at h <;> simp_all
      rename_i b
      refine ⟨.bool b, .bool, rfl, fun i v y hv hy => ?_⟩
      cases i with
      | zero => simp [D.cells] at hv hy; subst hv; subst hy; exact .bool b
      | succ i => simp at hv
  | @list t e n sh ht hn h0 he ih =>
    intro fuel cs d ps h
    rcases DataW.trod_slice ht h with ⟨rfl, _⟩ | ⟨a, len, cap, elems, rest, m, _, rfl, _, _, hl, hm, _, hget, _⟩
    · refine ⟨.list [], .list (by simp) (by simp), rfl, fun i v y hv hy => ?_⟩
      cases i with
      | zero => simp [D.cells] at hv hy; subst hv; subst hy; exact .nil none 0
      | succ i => simp at hv
    · have hone : ∀ i, i < len → ∃ x, Typ sh x ∧ x.cells.length = n ∧ ∀ j, j < n → ∃ v y, w.cell? ((a.add (i * n)).add j) = some v ∧ x.cells[j]? = some y ∧ RepV w (inH w) v y := by
        intro i hi
        have hg := hget i hi
        rw [hn] at hg
        have hlt : i < elems.length := by omega
        rw [List.getElem?_eq_getElem hlt] at hg
        rw [Option.bind_eq_some_iff] at hg
        obtain ⟨cs', hc, ht'⟩ := hg
        obtain ⟨_, hcl, hcell⟩ := World.cells?_some hc
        obtain ⟨x, h1, h2, h3⟩ := ih m cs' _ _ ht'
        refine ⟨x, h1, by omega, fun j hj => ?_⟩
        have hjc : j < cs'.length := by omega
        have hjx : j < x.cells.length := by omega
        exact ⟨cs'[j], x.cells[j], by rw [hcell j hj]; exact List.getElem?_eq_getElem hjc, List.getElem?_eq_getElem hjx, h3 j _ _ (List.getElem?_eq_getElem hjc) (List.getElem?_eq_getElem hjx)⟩
      obtain ⟨xs, hx1, hx2⟩ := exists_list len hone
      have hty : ∀ x ∈ xs, Typ sh x := fun x hx => by
        obtain ⟨i, hi⟩ := List.mem_iff_getElem?.1 hx
        exact (hx2 i x hi).1
      refine ⟨.list xs, .list (by omega) hty, rfl, fun i v y hv hy => ?_⟩
      cases i with
      | succ i => simp at hv
      | zero =>
        simp [D.cells] at hv hy; subst hv; subst hy
        rcases Nat.eq_zero_or_pos len with h0l | hpos
        · subst h0l
          have : xs = [] := List.length_eq_zero_iff.1 hx1
          subst this
          exact .nil _ _
        · -- the row lies in one block
          have hlt0 : 0 < xs.length := by omega
          obtain ⟨v0, y0, hc0, _, _⟩ := (hx2 0 xs[0] (List.getElem?_eq_getElem hlt0)).2.2 0 h0
          obtain ⟨b, off, sp⟩ := a
          have e0 : ((⟨b, off, sp⟩ : Addr).add (0 * n)).add 0 = ⟨b, off, sp⟩ := by simp [Addr.add]
          have ea : ∀ o k, (⟨b, o, none⟩ : Addr).add k = ⟨b, o + k, none⟩ := fun o k => by
            unfold Addr.add
            split
            · rename_i h; subst h; rfl
            · rfl
          rw [e0] at hc0
          unfold World.cell? at hc0
          split at hc0
          · rename_i c T fz hb
            split at hc0
            · cases hc0
            · rename_i hsp
              have hsp' : sp = none := by cases sp <;> simp_all
              subst hsp'
              have hcell : ∀ (i j : Nat), w.cell? (((⟨b, off, none⟩ : Addr).add (i * n)).add j) = c[off + i * n + j]? := fun i j => by
                rw [ea, ea]; simp [World.cell?, hb]
              refine .list (sz := n) (fun i j => (c[off + i * n + j]?).getD undef) hx1 hl (show b < w.heap.size from ?_) hb (fun x hx => ?_) (fun i j x y hxi hyj => ?_) (fun i j x y hxi hyj => ?_)
              · exact (Array.getElem?_eq_some_iff.1 hb).1
              · obtain ⟨i, hi⟩ := List.mem_iff_getElem?.1 hx
                obtain ⟨g1, g2, g3⟩ := hx2 i x hi
                refine ⟨g2, fun z hz => ?_⟩
                cases g1 with
                | int _ => simp [D.cells] at hz; subst hz; rfl
                | str _ => simp [D.cells] at hz; subst hz; rfl
                | bool => simp [D.cells] at hz; subst hz; rfl
                | list _ _ => simp [D.cells] at hz; subst hz; rfl
                | @agg fs ds hl' ht' =>
                  simp only [D.cells] at hz
                  obtain ⟨k, hk⟩ := List.mem_iff_getElem?.1 hz
                  have hkl : k < fs.length := by have := (List.getElem?_eq_some_iff.1 hk).1; omega
                  rw [(ht' k fs[k] z (List.getElem?_eq_getElem hkl) hk).isAgg]
                  cases he with
                  | agg _ _ _ _ hna _ => exact hna _ (List.getElem_mem hkl)
              · obtain ⟨g1, g2, g3⟩ := hx2 i x hxi
                have hj : j < n := by have := (List.getElem?_eq_some_iff.1 hyj).1; omega
                obtain ⟨v, y', q1, q2, q3⟩ := g3 j hj
                rw [hcell] at q1
                rw [q1]; rfl
              · obtain ⟨g1, g2, g3⟩ := hx2 i x hxi
                have hj : j < n := by have := (List.getElem?_eq_some_iff.1 hyj).1; omega
                obtain ⟨v, y', q1, q2, q3⟩ := g3 j hj
                rw [hcell] at q1
                rw [hyj] at q2; cases q2
                rw [q1]; exact q3
          · cases hc0
  | @agg t fs shs ht hsz hc hof hna hf ih =>
    intro fuel cs d ps h
    obtain ⟨xs, m, _, _, hl, hxl, hget⟩ := DataW.trod_struct ht h
    rw [hc] at hl
    have hone : ∀ i, i < cs.length → ∃ x, (∀ sh, shs[i]? = some sh → Typ sh x) ∧ x.isAgg = false ∧ ∀ v, cs[i]? = some v → RepV w (inH w) v x := by
      intro i hi
      have hif : i < fs.size := by omega
      have his : i < shs.length := by omega
      have hg := hget i fs[i] (Array.getElem?_eq_getElem hif)
      obtain ⟨o1, o2⟩ := hof i fs[i] (Array.getElem?_eq_getElem hif)
      rw [o1, o2, List.getElem?_eq_getElem (by omega)] at hg
      have e1 : (cs.drop i).take 1 = [cs[i]] := by rw [List.drop_eq_getElem_cons hi]; rfl
      rw [e1] at hg
      obtain ⟨x, h1, h2, h3⟩ := ih i fs[i] shs[i] (Array.getElem?_eq_getElem hif) (List.getElem?_eq_getElem his) m [cs[i]] _ _ hg
      have hnx : x.isAgg = false := by rw [h1.isAgg]; exact hna _ (List.getElem_mem his)
      have hcx : x.cells = [x] := by cases x <;> first | rfl | (simp [D.isAgg] at hnx)
      refine ⟨x, fun sh hsh => ?_, hnx, fun v hv => ?_⟩
      · rw [List.getElem?_eq_getElem his] at hsh; cases hsh; exact h1
      · rw [List.getElem?_eq_getElem hi] at hv; cases hv
        exact h3 0 _ x rfl (by rw [hcx]; rfl)
    obtain ⟨ys, hy1, hy2⟩ := exists_list cs.length hone
    refine ⟨.agg ys, .agg (by omega) fun i f c hfi hci => (hy2 i c hci).1 f hfi, by simp [D.cells, hy1], fun i v y hv hy => (hy2 i y hy).2.2 v hv⟩

/-- An argument of a law is a datum of its type's shape. -/
theorem arg_data {t : TypeId} {sh : Shape} (hs : IsSh P t sh) {v : Value} {d : DataW H} {ps : List MemPlace} {rc : Reach} {b0 : Nat} (hv : Value.okWide P w rc b0 t v) (h : DataW.Trod enc P w 0 spare held t v d ps) : ∃ x, Typ sh x ∧ RepV w (inH w) v x := by
  obtain ⟨fuel, h⟩ := h
  obtain ⟨x, h1, h2, h3⟩ := trod_data hs fuel _ d ps h
  refine ⟨x, h1, ?_⟩
  cases ha : sh.isAgg with
  | true =>
    cases hs with
    | @agg t fs shs ht _ _ _ _ _ =>
      unfold Value.okWide at hv
      rw [ht] at hv
      obtain ⟨cs, rfl, _, _⟩ := hv
      cases h1 with | @agg _ ds hl ht' =>
      refine .agg ?_ fun i v y hv hy => h3 i v y (by simpa [Value.cells] using hv) hy
      simpa [D.cells, Value.cells] using h2.symm
    | _ => cases ha
  | false =>
    have hnx : x.isAgg = false := by rw [h1.isAgg]; exact ha
    have hcx : x.cells = [x] := by cases x <;> first | rfl | (simp [D.isAgg] at hnx)
    have hvc : v.cells.toList = [v] := by
      rw [hcx] at h2
      cases v <;> first | rfl | skip
      rename_i vs
      exfalso
      simp only [Value.cells] at h
      cases hs with
      | int ht => unfold Value.okWide at hv; rw [ht] at hv; simp [Cell.okWide, ht, Cell.ok] at hv
      | str ht => unfold Value.okWide at hv; rw [ht] at hv; simp [Cell.okWide, ht, Cell.ok] at hv
      | bool ht => unfold Value.okWide at hv; rw [ht] at hv; simp [Cell.okWide, ht, Cell.ok] at hv
      | list ht => unfold Value.okWide at hv; rw [ht] at hv; simp [Cell.okWide, ht, Cell.ok] at hv
      | agg _ _ _ _ _ _ => cases ha
    exact h3 0 v x (by rw [hvc]; rfl) (by rw [hcx]; rfl)

/-- A law's walk: it answers true, and nothing that was there has turned. -/
theorem law_walk {f : FuncId} {xs : List D} {W : World} {vs : List Value} (hc : DCalls P f (xs.map .d) fun y => y = .bool true) (hl : vs.length = xs.length) (hr : ∀ (i : Nat) v x, vs[i]? = some v → xs[i]? = some x → RepV W (inH W) v x) :
    Calls P f vs.toArray W fun e W' => e = .returned (.bool true) ∧ Below W.heap.size W W' := by
  let c : Ctx := ⟨W, inH W, fun _ => False, fun _ => none, rfl, fun _ h => h, fun _ _ => id⟩
  have hok : ∀ b, inH W b → okOf c W (st []).hp (fun _ => none) b ∧ W.heap[b]? = W.heap[b]? := fun b hb => ⟨⟨hb, .inl hb, fun id δ _ he => (by cases he)⟩, rfl⟩
  have hrep : RepL P c (st []) (fun _ => undef) c.w0 vs (xs.map .d) c.floc := by
    refine ⟨fun s => .unk _, by simp [hl], fun i v x hv hx => ?_, fun id b hb => by simp [st, hpOf, lookH] at hb, fun id id' b δ δ' _ _ e1 _ => (by cases e1),
      fun id b δ _ e1 => (by cases e1), ⟨rfl, rfl, rfl, Nat.le_refl _, fun _ _ _ => rfl, Shapes.refl _⟩, fun _ _ => rfl, fun _ _ => rfl, fun id hl => by simp [Live, st, hpOf, lookH] at hl⟩
    simp only [List.getElem?_map, Option.map_eq_some_iff] at hx
    obtain ⟨x', hx', rfl⟩ := hx
    exact .d ((hr i v x' hv hx').mono hok)
  refine (hc c vs hrep).mono fun e W' ⟨v, x, bs, res, loc', he, ⟨⟨r, hx, hR⟩, _⟩, _, _, hr'⟩ => ?_
  subst hx; subst hR
  have hv := hr'.val1
  cases hv with | d hv =>
  cases hv with | bool b =>
  exact ⟨he, hr'.ext.os, hr'.ext.tape, hr'.ext.output, hr'.ext.size, fun b hb => hr'.ext.block b hb (by simp [c])⟩

/-- What a law that answers true leaves, where nothing that was there has turned. -/
theorem law_post {f : Func} {s : ChangeSpec} {W W' : World} {args : Array Value} {v : Value} {ds : List (DataW H)} {before : List MemPlace} (hv : s.vars = [])
    (hW : DataW.Whole enc P f.params.toList s.vars false W args.toList ds [] before) (hb : Below W.heap.size W W')
    (hres : DataW.TrodAll enc P W' W.heap.size (fun _ => false) false f.resultTypes.toList (v.resultList f.resultTypes.size) (s.fn H (ds ++ [])).results [])
    (hargs : DataW.TrodAll enc P W' 0 (fun b => decide (b < W.heap.size)) true f.params.toList args.toList (s.fn H (ds ++ [])).args before) (hvs : (s.fn H (ds ++ [])).vars = []) :
    s.post enc P f false true false false W args v W' :=
  ⟨ds, [], before, [], before, [], hW, hres, hargs, by rw [hv, hvs]; rfl, hb.frame _, fun h => (by cases h)⟩

end Go.Fw
