/- Operations that read memory or reckon addresses: they yield what is said of them. -/
import Derived.Test.YtfiipgebdcbknaaFwD
set_option linter.unusedSimpArgs false
set_option linter.unusedVariables false
namespace Go.Fw
open Go

section
variable {P : Program} {w : World} {ok : Nat → Prop} {loc : Nat → Option (Nat × Nat)}

/-- Cells that are there, read as one cell or as an aggregate. -/
theorem run_loadVar {t : TypeId} {a : Bool} {n : Nat} {z : List Value} (ht : tI P t = some (a, n, z)) {b o : Nat} {c : Array Value} {T : TypeId} {fz : Nat × Nat}
    (hb : w.heap[b]? = some (.cells c T fz)) {cs : List AV} (hc : ∀ (j : Nat) y, cs[j]? = some y → ∃ u, c[o + j]? = some u ∧ RepA P w ok loc u y)
    (h : (pickCells a n cs).1) : ∃ v, (loadVar t ⟨b, o, none⟩).run P w = .ok v w ∧ RepA P w ok loc v (pickCells a n cs).2 := by
  obtain ⟨h1, h2, _⟩ := tI_runs (w := w) ht
  unfold pickCells at h ⊢
  unfold loadVar
  cases a with
  | true =>
    simp only [if_true] at h ⊢
    have hf : ∀ j, ∃ u, j < n → c[o + j]? = some u ∧ ∀ y, cs[j]? = some y → RepA P w ok loc u y := fun j => by
      by_cases hj : j < n
      · obtain ⟨u, hu, hr⟩ := hc j cs[j] (List.getElem?_eq_getElem (by omega))
        refine ⟨u, fun _ => ⟨hu, fun y hy => ?_⟩⟩
        rw [List.getElem?_eq_getElem (by omega)] at hy
        simp only [Option.some.injEq] at hy; subst hy; exact hr
      · exact ⟨undef, fun h => absurd h hj⟩
    let f : Nat → Value := fun j => (hf j).choose
    have hfs : ∀ j, j < n → c[o + j]? = some (f j) ∧ ∀ y, cs[j]? = some y → RepA P w ok loc (f j) y := fun j => (hf j).choose_spec
    refine ⟨.agg ((List.range n).map f).toArray, ?_, .mkAg (by simp; omega) fun i v y hv hy => ?_⟩
    · simp only [Sem.run_bind, h1, Result.andThen_ok, if_true, h2, Sem.run_pure]
      rw [run_loadCells w _ n f fun j hj => by rw [Addr.add_none, cell_of_block hb]; exact (hfs j hj).1]
      rfl
    · simp only [List.getElem?_toArray, List.getElem?_map, Option.map_eq_some_iff] at hv
      obtain ⟨j, hj, rfl⟩ := hv
      rw [List.getElem?_range] at hj
      · simp only [Option.some.injEq] at hj; subst hj
        have hlt : i < n := by
          have := (List.getElem?_eq_some_iff.1 hy).1
          simp at this; omega
        rw [List.getElem?_take, if_pos hlt] at hy
        exact (hfs i hlt).2 y hy
      · have := (List.getElem?_eq_some_iff.1 hy).1
        simp at this; omega
  | false =>
    simp only [Bool.false_eq_true, if_false] at h ⊢
    split at h
    · rename_i x r
      obtain ⟨u, hu, hr⟩ := hc 0 x rfl
      refine ⟨u, ?_, hr⟩
      simp only [Sem.run_bind, h1, Result.andThen_ok, Bool.false_eq_true, if_false, run_load]
      rw [cell_of_block hb, show c[o]? = some u from hu]
    · exact h.elim

theorem s_field {t : TypeId} {f : Nat} {x : AV} {v : Value} (h : (fField P t f x).1) (hx : RepA P w ok loc v x) :
    ∃ u, (Instr.fieldAt t v f).run P w = .ok u w ∧ RepA P w ok loc u (fField P t f x).2 := by
  have key : ∀ {o : Nat} {b off : Nat}, tField P t f = some o → (Instr.fieldAt t (.pointer (some ⟨b, off, none⟩)) f).run P w = .ok (.pointer (some ⟨b, off + o, none⟩)) w := by
    intro o b off ht
    unfold tField at ht
    split at ht
    · rename_i fs hu
      split at ht
      · rename_i fl hf
        split at ht
        · rename_i i hi
          split at ht
          · cases ht
          · rename_i hz
            simp only [Option.some.injEq] at ht; subst ht
            simp [Instr.fieldAt, run_underlying' hu, hf, Instr.sureAddr, fieldPlace, run_sizeOf' hi, hz, Addr.add_none]
        · cases ht
      · cases ht
    · cases ht
  unfold fField at h ⊢
  split at h
  · rename_i id off
    split at h
    · rename_i o ho
      cases hx with | ptr hl =>
      exact ⟨_, key ho, by rw [Nat.add_assoc]; exact .ptr hl⟩
    · exact h.elim
  · rename_i sz id i off
    split at h
    · rename_i o ho
      cases hx with | ep hl =>
      exact ⟨_, key ho, by rw [Nat.add_assoc]; exact .ep hl⟩
    · exact h.elim
  · rename_i cs
    split at h
    · rename_i o ho
      cases hx with | dp u h1 h2 h3 h4 =>
      refine ⟨_, key ho, .dp (fun j => u (o + j)) h1 h2 (fun j y hy => ?_) (fun j y hy => h4 (o + j) y (by rwa [List.getElem?_drop] at hy))⟩
      rw [Nat.add_assoc]; exact h3 (o + j) y (by rwa [List.getElem?_drop] at hy)
    · exact h.elim
  · exact h.elim

theorem run_indexAt_slice {t : TypeId} {es by' : Nat} {e : TypeId} (ht : tElem P t = some (es, by', e)) {b off len cap : Nat} {k : IntKind} {n : Int} (h0 : 0 ≤ n) (h1 : n < len) :
    (Instr.indexAt t (.slice (some ⟨b, off, none⟩) len cap) (.int k n)).run P w = .ok (.pointer (some ⟨b, off + n.toNat * es, none⟩)) w := by
  obtain ⟨hu, i, hi, rfl, _⟩ := tElem_und ht
  simp [Instr.indexAt, asIntOf, run_underlying' hu, h0, h1, run_sizeOf' hi, Addr.add_none]

theorem s_idx {t : TypeId} {x i : AV} {v vi : Value} (h : (fIdx P t x i).1) (hx : RepA P w ok loc v x) (hi : RepA P w ok loc vi i) :
    ∃ u, (Instr.indexAt t v vi).run P w = .ok u w ∧ RepA P w ok loc u (fIdx P t x i).2 := by
  unfold fIdx at h ⊢
  split at h
  · rename_i xs k n
    have := hi.inv_int; subst this
    split at h
    · rename_i es by' e he
      obtain ⟨h0, h1, h2⟩ := h
      cases hx with | d hx =>
      cases hx with
      | nil base cap => simp at h1; omega
      | @list b off len cap sz c T fz _ vs hl hcap hok hh hsz hc hv =>
        subst hl
        have hn : n.toNat < xs.length := by omega
        have hget : xs[n.toNat]? = some (xs.getD n.toNat D.dflt) := by simp [List.getD, List.getElem?_eq_getElem hn]
        have hes : sz = es := by rw [← h2]; exact (hsz _ (List.mem_of_getElem? hget)).1.symm
        subst hes
        refine ⟨_, run_indexAt_slice he h0 h1, .dp (fun j => vs n.toNat j) hok hh (fun j y hy => ?_) (fun j y hy => ?_)⟩
        · simp only [List.getElem?_map, Option.map_eq_some_iff] at hy
          obtain ⟨y', hy', rfl⟩ := hy
          exact hc _ _ _ _ hget hy'
        · simp only [List.getElem?_map, Option.map_eq_some_iff] at hy
          obtain ⟨y', hy', rfl⟩ := hy
          exact .d (hv _ _ _ _ hget hy')
    · exact h.elim
  · rename_i sz id off len k n
    have := hi.inv_int; subst this
    split at h
    · rename_i es by' e he
      obtain ⟨h0, h1, rfl⟩ := h
      cases hx with
      | sl0 base => simp at h1; omega
      | @sl _ _ _ _ b δ cap c T fz hl hh hcap hlen hm =>
        refine ⟨_, run_indexAt_slice he h0 h1, ?_⟩
        have := RepA.ep (P := P) (w := w) (ok := ok) (sz := es) (i := off + n.toNat) (off := 0) hl
        rwa [Nat.add_mul, ← Nat.add_assoc] at this
    · exact h.elim
  · rename_i id off k n
    have := hi.inv_int; subst this
    split at h
    · rename_i len es ag he
      obtain ⟨h0, h1⟩ := h
      cases hx with | @ptr _ _ b δ hl =>
      have hrun : (Instr.indexAt t (.pointer (some ⟨b, δ + off, none⟩)) (.int k n)).run P w = .ok (.pointer (some ⟨b, δ + off + n.toNat * es, none⟩)) w := by
        unfold tArr at he
        split at he
        · rename_i n' e' hu
          split at he
          · rename_i i u hi' hu'
            simp only [Option.some.injEq, Prod.mk.injEq] at he
            obtain ⟨rfl, rfl, _⟩ := he
            simp [Instr.indexAt, asIntOf, run_underlying' hu, h0, h1, run_sizeOf' hi', Addr.add_none, Instr.sureAddr]
          · cases he
        · cases he
      exact ⟨_, hrun, by rw [Nat.add_assoc]; exact .ptr hl⟩
    · exact h.elim
  · rename_i cs k n
    have := hi.inv_int; subst this
    split at h
    · rename_i len es ag he
      obtain ⟨h0, h1⟩ := h
      cases hx with | @dp b o c T fz _ u h1' h2 h3 h4 =>
      have hrun : (Instr.indexAt t (.pointer (some ⟨b, o, none⟩)) (.int k n)).run P w = .ok (.pointer (some ⟨b, o + n.toNat * es, none⟩)) w := by
        unfold tArr at he
        split at he
        · rename_i n' e' hu
          split at he
          · rename_i i u hi' hu'
            simp only [Option.some.injEq, Prod.mk.injEq] at he
            obtain ⟨rfl, rfl, _⟩ := he
            simp [Instr.indexAt, asIntOf, run_underlying' hu, h0, h1, run_sizeOf' hi', Addr.add_none, Instr.sureAddr]
          · cases he
        · cases he
      refine ⟨_, hrun, .dp (fun j => u (n.toNat * es + j)) h1' h2 (fun j y hy => ?_) (fun j y hy => h4 (n.toNat * es + j) y (by rwa [List.getElem?_drop] at hy))⟩
      rw [Nat.add_assoc]; exact h3 (n.toNat * es + j) y (by rwa [List.getElem?_drop] at hy)
    · exact h.elim
  · exact h.elim

theorem tStr_und {t : TypeId} (h : tStr P t = true) : P.underlying t = some .string := by
  unfold tStr at h; split at h
  · assumption
  · cases h

theorem s_index {t : TypeId} {x i : AV} {v vi : Value} (h : (fIndex P t x i).1) (hx : RepA P w ok loc v x) (hi : RepA P w ok loc vi i) :
    ∃ u, (Instr.index t v vi).run P w = .ok u w ∧ RepA P w ok loc u (fIndex P t x i).2 := by
  unfold fIndex at h ⊢
  split at h
  · rename_i s k n
    have := hi.inv_int; subst this
    have := hx.inv_str; subst this
    obtain ⟨hs, h0, h1⟩ := h
    have hn : n.toNat < s.length := by omega
    have hb : (⟨s.toArray⟩ : ByteArray)[n.toNat]? = some (s.getD n.toNat 0) := by
      have hlt : n.toNat < (⟨s.toArray⟩ : ByteArray).size := by simpa [ByteArray.size] using hn
      rw [ByteArray.getElem?_lt' _ _ hlt]
      simp only [List.getD, List.getElem?_eq_getElem hn, Option.getD_some, Option.some.injEq]
      rfl
    exact ⟨.int .u8 ((s.getD n.toNat 0).toNat : Int), by simp only [Instr.index, asIntOf, Sem.run_bind, Sem.run_pure, Result.andThen_ok, run_underlying' (tStr_und hs), if_pos h0, hb], .int _ _⟩
  · rename_i cs k n
    have := hi.inv_int; subst this
    split at h
    · rename_i len he
      obtain ⟨h0, h1, h2⟩ := h
      cases hx with | d hx =>
      cases hx with | @agg vs _ hl hc =>
      have hn : n.toNat < vs.size := by omega
      have hn' : n.toNat < cs.length := by omega
      have hget : cs[n.toNat]? = some (cs.getD n.toNat D.dflt) := by simp [List.getD, List.getElem?_eq_getElem hn']
      refine ⟨vs[n.toNat], ?_, .d (hc _ _ _ (Array.getElem?_eq_getElem hn) hget)⟩
      unfold tArr at he
      split at he
      · rename_i n' e' hu
        split at he
        · rename_i i u hi' hu'
          simp only [Option.some.injEq, Prod.mk.injEq] at he
          obtain ⟨rfl, hsz, hag⟩ := he
          have hagg : (isAgg e').run P w = .ok false w := by
            simp only [isAgg, Sem.run_bind, run_underlying' hu', Result.andThen_ok]
            cases u <;> first | rfl | (simp at hag)
          simp [Instr.index, asIntOf, run_underlying' hu, h0, h1, run_sizeOf' hi', part, hagg, hsz, Array.getElem?_eq_getElem hn]
        · cases he
      · cases he
    · exact h.elim
  · exact h.elim

theorem s_len {t ty : TypeId} {x : AV} {v : Value} (h : (fLen P t x).1) (hx : RepA P w ok loc v x) :
    ∃ u, (Builtin.len_ #[t] ty #[v]).run P w = .ok u w ∧ RepA P w ok loc u (fLen P t x).2 := by
  unfold fLen at h ⊢
  split at h
  · have := hx.inv_str; subst this
    rename_i s; exact ⟨.int .i64 ((⟨s.toArray⟩ : ByteArray).size : Nat), by simp only [Builtin.len_, List.getElem?_toArray, List.getElem?_cons_zero, Sem.run_bind, Result.andThen_ok, run_underlying' (tStr_und h), goInt]; rfl, .int _ _⟩
  · rename_i xs
    split at h
    · rename_i p hp
      obtain ⟨es, by', e⟩ := p
      obtain ⟨hu, _⟩ := tElem_und hp
      cases hx with | d hx =>
      cases hx with
      | nil base cap => exact ⟨.int .i64 0, by simp [Builtin.len_, run_underlying' hu, goInt], .int _ _⟩
      | list vs hl hcap hok hh hsz hc hv => subst hl; exact ⟨.int .i64 xs.length, by simp [Builtin.len_, run_underlying' hu, goInt], .int _ _⟩
    · exact h.elim
  · rename_i sz id off len
    split at h
    · rename_i p hp
      obtain ⟨es, by', e⟩ := p
      obtain ⟨hu, _⟩ := tElem_und hp
      cases hx with
      | sl0 base => exact ⟨.int .i64 0, by simp [Builtin.len_, run_underlying' hu, goInt], .int _ _⟩
      | sl hl hh hcap hlen hm => exact ⟨.int .i64 len, by simp [Builtin.len_, run_underlying' hu, goInt], .int _ _⟩
    · exact h.elim
  · split at h
    · rename_i p hp
      obtain ⟨es, by', e⟩ := p
      obtain ⟨hu, _⟩ := tElem_und hp
      cases hx with | nl => exact ⟨.int .i64 0, by simp [Builtin.len_, run_underlying' hu, goInt], .int _ _⟩
    · exact h.elim
  · exact h.elim

theorem s_nil {x : AV} {v : Value} (h : (fNil x).1) (hx : RepA P w ok loc v x) :
    RepA P w ok loc v (fNil x).2 ∧ ∃ a, v = .pointer (some a) := by
  unfold fNil at h ⊢
  split at h
  · cases hx with | ptr hl => exact ⟨.ptr hl, _, rfl⟩
  · cases hx with | ep hl => exact ⟨.ep hl, _, rfl⟩
  · cases hx with | dp u h1 h2 h3 h4 => exact ⟨.dp u h1 h2 h3 h4, _, rfl⟩
  · exact h.elim

/-- Optional operands. -/
def RepO (P : Program) (w : World) (ok : Nat → Prop) (loc : Nat → Option (Nat × Nat)) : Option Value → Option AV → Prop
  | none, none => True
  | some v, some x => RepA P w ok loc v x
  | _, _ => False

theorem bnd_inv {d l : Int} {lo : Option AV} {v : Option Value} (h : bnd d lo = some l) (hr : RepO P w ok loc v lo) :
    (v = none ∧ l = d) ∨ ∃ k, v = some (.int k l) := by
  unfold bnd at h
  split at h
  · cases v with
    | none => simp at h; exact .inl ⟨rfl, h.symm⟩
    | some v => exact hr.elim
  · cases v with
    | none => exact hr.elim
    | some v => simp at h; subst h; exact .inr ⟨_, by rw [RepA.inv_int hr]⟩
  · cases h

theorem run_bounds (isS : Bool) {len cap : Nat} {l h : Int} {lo hi : Option Value} (hlo : (lo = none ∧ l = 0) ∨ ∃ k, lo = some (.int k l)) (hhi : (hi = none ∧ h = len) ∨ ∃ k, hi = some (.int k h))
    (h0 : 0 ≤ l) (h1 : l ≤ h) (h2 : h ≤ cap) : (Instr.sliceBounds isS len cap lo hi none).run P w = .ok (l.toNat, h.toNat, cap) w := by
  have hsb : ∀ (k : IntKind) (i : Int) (y : Nat) (code : BoundsCode), 0 ≤ i → i ≤ y → (Instr.sliceBound (.int k i) y code).run P w = .ok i.toNat w := by
    intro k i y code g0 g1
    simp [Instr.sliceBound, asIntOf, g0, g1]
  have ht : h ≤ (cap : Int) := h2
  have hl : l ≤ (h.toNat : Int) := by omega
  rcases hlo with ⟨rfl, rfl⟩ | ⟨kl, rfl⟩ <;> rcases hhi with ⟨rfl, rfl⟩ | ⟨kh, rfl⟩
  · simp [Instr.sliceBounds]
  · simp [Instr.sliceBounds, hsb _ _ _ _ (by omega) ht]
  · simp only [Int.toNat_natCast] at hl
    simp [Instr.sliceBounds, hsb _ _ _ _ h0 hl]
  · simp [Instr.sliceBounds, hsb _ _ _ _ (by omega) ht, hsb _ _ _ _ h0 hl]

theorem s_slice {t : TypeId} {x : AV} {lo hi : Option AV} {v : Value} {vlo vhi : Option Value} (h : (fSlice P t x lo hi).1) (hx : RepA P w ok loc v x)
    (hlo : RepO P w ok loc vlo lo) (hhi : RepO P w ok loc vhi hi) :
    ∃ u, (Instr.sliceAt t v vlo vhi none).run P w = .ok u w ∧ RepA P w ok loc u (fSlice P t x lo hi).2 := by
  unfold fSlice at h ⊢
  split at h
  · rename_i s
    split at h
    · rename_i l hh el eh
      have := hx.inv_str; subst this
      obtain ⟨hs, h0, h1, h2⟩ := h
      refine ⟨.string ((⟨s.toArray⟩ : ByteArray).extract l.toNat hh.toNat), ?_, ?_⟩
      · have hsz : ((⟨s.toArray⟩ : ByteArray).size : Int) = s.length := rfl
        have := run_bounds (P := P) (w := w) false (len := (⟨s.toArray⟩ : ByteArray).size) (cap := (⟨s.toArray⟩ : ByteArray).size) (bnd_inv el hlo) (bnd_inv eh hhi) h0 h1 (by rw [hsz]; exact h2)
        simp only [Instr.sliceAt, Instr.slice, Sem.run_bind, run_underlying' (tStr_und hs), Result.andThen_ok, Option.isSome_none, Bool.false_eq_true, if_false, this, Sem.run_pure]
      · have e : (⟨s.toArray⟩ : ByteArray).extract l.toNat hh.toNat = ⟨((s.take hh.toNat).drop l.toNat).toArray⟩ := by
          apply ByteArray.ext
          apply Array.ext'
          simp [ByteArray.data_extract, List.extract_eq_take_drop, List.drop_take]
        rw [e]; exact .str _
    · exact h.elim
  · rename_i xs
    split at h
    · rename_i l hh es by' e el eh he
      obtain ⟨hu, i, hi', hsz', _⟩ := tElem_und he
      obtain ⟨h0, h1, h2, h3⟩ := h
      cases hx with | d hx =>
      have hb : ∀ (base : Option Addr) (len cap : Nat), len = xs.length → len ≤ cap → (Instr.sliceAt t (.slice base len cap) vlo vhi none).run P w =
          .ok (.slice (if cap = l.toNat then base else base.map (·.add (l.toNat * es))) (hh.toNat - l.toNat) (cap - l.toNat)) w := by
        intro base len cap hl hcap
        have := run_bounds (P := P) (w := w) true (len := len) (cap := cap) (bnd_inv el hlo) (by rw [hl]; exact bnd_inv eh hhi) h0 h1 (by omega)
        simp only [Instr.sliceAt, Instr.slice, Sem.run_bind, run_underlying' hu, Result.andThen_ok, this, run_sizeOf' hi', hsz', Sem.run_pure]
      by_cases hlt : l < hh
      · cases hx with
        | nil base cap => simp at h2; omega
        | @list b off len cap sz c T fz _ vs hl hcap hok hh' hsz hc hv =>
          refine ⟨_, hb _ _ _ hl.symm hcap, ?_⟩
          have hn : l.toNat < xs.length := by omega
          have hget : xs[l.toNat]? = some (xs.getD l.toNat D.dflt) := by simp [List.getD, List.getElem?_eq_getElem hn]
          have hes : sz = es := by rw [← h3 hlt]; exact (hsz _ (List.mem_of_getElem? hget)).1.symm
          subst hes
          rw [if_neg (by omega), Option.map_some, Addr.add_none]
          have get : ∀ i x, ((xs.take hh.toNat).drop l.toNat)[i]? = some x → xs[l.toNat + i]? = some x := fun i x hx => by
            rw [List.getElem?_drop, List.getElem?_take] at hx
            split at hx
            · exact hx
            · cases hx
          refine .d (.list (fun i j => vs (l.toNat + i) j) (by simp; omega) (by omega) hok hh' (fun x hx => hsz x ?_) (fun i j x y hx hy => ?_) (fun i j x y hx hy => hv _ _ _ _ (get i x hx) hy))
          · exact List.mem_of_mem_take (List.mem_of_mem_drop hx)
          · have := hc _ _ _ _ (get i x hx) hy
            rw [Nat.add_mul] at this
            rw [show off + l.toNat * sz + i * sz + j = off + (l.toNat * sz + i * sz) + j by omega]; exact this
      · have heq : l = hh := by omega
        have hnil : (xs.take hh.toNat).drop l.toNat = [] := by rw [heq]; simp
        rw [hnil]
        have hz : hh.toNat - l.toNat = 0 := by omega
        cases hx with
        | nil base cap => exact ⟨_, hb _ _ _ rfl (Nat.zero_le _), by rw [hz]; exact .d (.nil _ _)⟩
        | list vs hl hcap hok hh' hsz hc hv => exact ⟨_, hb _ _ _ hl.symm hcap, by rw [hz]; exact .d (.nil _ _)⟩
    · exact h.elim
  · rename_i sz id off len
    split at h
    · rename_i l hh es by' e el eh he
      obtain ⟨hu, i, hi', hsz', _⟩ := tElem_und he
      obtain ⟨h0, h1, h2, rfl⟩ := h
      have hb : ∀ (base : Option Addr) (cap : Nat), len ≤ cap → (Instr.sliceAt t (.slice base len cap) vlo vhi none).run P w =
          .ok (.slice (if cap = l.toNat then base else base.map (·.add (l.toNat * es))) (hh.toNat - l.toNat) (cap - l.toNat)) w := by
        intro base cap hcap
        have := run_bounds (P := P) (w := w) true (len := len) (cap := cap) (bnd_inv el hlo) (bnd_inv eh hhi) h0 h1 (by omega)
        simp only [Instr.sliceAt, Instr.slice, Sem.run_bind, run_underlying' hu, Result.andThen_ok, this, run_sizeOf' hi', hsz', Sem.run_pure]
      cases hx with
      | sl0 base =>
        refine ⟨_, hb _ _ (Nat.zero_le _), ?_⟩
        have e1 : hh.toNat - l.toNat = 0 := by omega
        rw [e1, Nat.zero_sub]; exact .sl0 _ _ _ _
      | @sl _ _ _ _ b δ cap c T fz hl hh' hcap hlen hm =>
        refine ⟨_, hb _ _ hlen, ?_⟩
        by_cases hc : cap = l.toNat
        · have e1 : hh.toNat - l.toNat = 0 := by omega
          rw [e1, hc, Nat.sub_self]; exact .sl0 _ _ _ _
        · rw [if_neg hc, Option.map_some, Addr.add_none, Nat.add_assoc, ← Nat.add_mul]
          refine .sl hl hh' ?_ (by omega) (by omega)
          rw [show off + l.toNat + (cap - l.toNat) = off + cap by omega]; exact hcap
    · exact h.elim
  · exact h.elim

end
end Go.Fw
