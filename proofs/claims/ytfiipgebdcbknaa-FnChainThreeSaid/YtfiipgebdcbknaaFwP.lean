/- What is shown of an operation suffices: the others, and guards. -/
import Derived.Test.YtfiipgebdcbknaaFwO
set_option linter.unusedSimpArgs false
set_option linter.unusedVariables false
namespace Go.Fw
open Go

/-- A frame in a state. -/
structure Good (P : Program) (c : Ctx) (n : Nat) (σ : AS) (a : Act) (w : World) : Prop where
  rep : ∃ loc, RepL P c σ (fun s => a.tmps.getD s undef) w [] [] loc
  size : a.tmps.size = n
  defers : a.defers = []

section
variable {P : Program} {c : Ctx} {σ : AS} {w : World} {loc : Nat → Option (Nat × Nat)} {n : Nat}

theorem act_eval (a : Act) : a.eval = evalR (fun s => a.tmps.getD s undef) := by funext x; cases x <;> rfl

theorem put_getD (a : Act) (dst : Option Nat) (v : Value) (hd : ∀ t, dst = some t → t < a.tmps.size) : (fun s => (a.put dst v).tmps.getD s undef) = updO (fun s => a.tmps.getD s undef) dst v := by
  cases dst with
  | none => rfl
  | some t =>
    have ht := hd t rfl
    funext s
    simp only [Act.put, updO, upd]
    by_cases hs : s = t
    · subst hs; simp [ht]
    · simp [hs, Array.getElem?_setIfInBounds_ne (Ne.symm hs)]

theorem put_size (a : Act) (dst : Option Nat) (v : Value) : (a.put dst v).tmps.size = a.tmps.size := by cases dst <;> simp [Act.put]
theorem put_defers (a : Act) (dst : Option Nat) (v : Value) : (a.put dst v).defers = a.defers := by cases dst <;> rfl

theorem Good.put {a : Act} {v : Value} {x : AV} {dst : Option Nat} (hd : ∀ t, dst = some t → t < n) (hs : a.tmps.size = n) (hdf : a.defers = [])
    (h : RepL P c σ (fun s => a.tmps.getD s undef) w [v] [x] loc) : Good P c n (σ.put dst x) (a.put dst v) w := by
  refine ⟨⟨loc, ?_⟩, by rw [put_size, hs], by rw [put_defers, hdf]⟩
  rw [put_getD a dst v (by rw [hs]; exact hd)]
  exact (h.vals0).putO dst h.val1

theorem upon_val {o : Oper} {a : Act} {N : Act → World → Prop} {Q : Exit → Act → World → Prop} {v : Value} {w' : World} (h : (execOp a.eval o).run P w = .ok (.value v) w') (hn : N (a.put o.dst v) w') : o.wp P a w N Q := by
  unfold Oper.wp; rw [h]; exact hn

theorem newElem_ok {old : D} {off n sz : Nat} {dx : D} (ho : old.fits sz) (hx : dx.fits n) (hon : off + n ≤ sz) (hn0 : 0 < n) :
    (newElem old off n sz dx).fits sz ∧ ∀ j z, (newElem old off n sz dx).cells[j]? = some z → (off ≤ j ∧ j < off + n ∧ dx.cells[j - off]? = some z) ∨ (¬ (off ≤ j ∧ j < off + n) ∧ old.cells[j]? = some z) := by
  have dl : ∀ (ys : List D) (o : Nat) (cs : List D), (dsets o ys cs).length = cs.length := by
    intro ys; induction ys with
    | nil => intros; rfl
    | cons y r ih => intro o cs; simp [dsets, ih]
  have dg : ∀ (ys : List D) (o : Nat) (cs : List D), o + ys.length ≤ cs.length → ∀ j : Nat, (dsets o ys cs)[j]? = if o ≤ j ∧ j < o + ys.length then ys[j - o]? else cs[j]? := by
    intro ys; induction ys with
    | nil => intro o cs _ j; simp [dsets]; omega
    | cons y r ih =>
      intro o cs h j
      simp only [List.length_cons] at h
      rw [dsets, ih (o + 1) (cs.set o y) (by simp; omega) j]
      simp only [List.length_cons]
      by_cases h1 : o + 1 ≤ j ∧ j < o + 1 + r.length
      · rw [if_pos h1, if_pos (by omega), show j - o = (j - (o + 1)) + 1 by omega, List.getElem?_cons_succ]
      · rw [if_neg h1]
        by_cases h2 : j = o
        · subst h2; rw [if_pos (by omega), Nat.sub_self, List.getElem?_cons_zero, List.getElem?_set_self (by omega)]
        · rw [if_neg (by omega), List.getElem?_set_ne (by omega)]
  unfold newElem
  by_cases hw : n = sz ∧ off = 0
  · rw [if_pos hw]
    obtain ⟨rfl, rfl⟩ := hw
    refine ⟨hx, fun j z hz => .inl ⟨Nat.zero_le _, ?_, by simpa using hz⟩⟩
    have := (List.getElem?_eq_some_iff.1 hz).1
    rw [hx.1] at this; omega
  · rw [if_neg hw]
    split
    · rename_i cs
      have hcl : cs.length = sz := ho.1
      have hg := dg dx.cells off cs (by rw [hx.1, hcl]; exact hon)
      rw [hx.1] at hg
      have key : ∀ (j : Nat) z, (dsets off dx.cells cs)[j]? = some z → (off ≤ j ∧ j < off + n ∧ dx.cells[j - off]? = some z) ∨ (¬ (off ≤ j ∧ j < off + n) ∧ cs[j]? = some z) := fun j z hz => by
        rw [hg j] at hz
        by_cases hj : off ≤ j ∧ j < off + n
        · rw [if_pos hj] at hz; exact .inl ⟨hj.1, hj.2, hz⟩
        · rw [if_neg hj] at hz; exact .inr ⟨hj, hz⟩
      refine ⟨⟨by simp only [D.cells, dl, hcl], fun y hy => ?_⟩, fun j z hz => key j z hz⟩
      obtain ⟨j, hj⟩ := List.mem_iff_getElem?.1 hy
      rcases key j y hj with ⟨_, _, h3⟩ | ⟨_, h3⟩
      · exact hx.2 y (List.mem_of_getElem? h3)
      · exact ho.2 y (List.mem_of_getElem? h3)
    · rename_i hna
      exfalso
      have h1 : sz = 1 := by rw [← ho.1]; cases old <;> first | rfl | (exact absurd rfl (hna _))
      exact hw ⟨by omega, by omega⟩

theorem vcStore_sound {t : TypeId} {a x : AV} {va v : Value} {K : AS → Prop} {ρ : Nat → Value} (h : RepL P c σ ρ w [] [] loc) (ha : RepA P w (okOf c w σ.hp loc) loc va a) (hx : RepA P w (okOf c w σ.hp loc) loc v x)
    (hv : vcStore P σ t a x K) : ∃ w' σ' loc', (Instr.storeAt t va v).run P w = .ok () w' ∧ K σ' ∧ RepL P c σ' ρ w' [] [] loc' := by
  unfold vcStore at hv
  split at hv
  · rename_i id off
    split at hv
    · rename_i cs ag m z ys hh ht hc
      obtain ⟨⟨h1, h2, h3⟩, hK⟩ := hv
      obtain ⟨w', r1, r2⟩ := h.store hh ha ht hx hc h1 h2 h3
      exact ⟨w', _, loc, r1, hK, r2⟩
    · exact hv.elim
  · rename_i sz id i off
    split at hv
    · rename_i sz' zs ag m z p dx l hh ht hd
      obtain ⟨⟨hp, h1, rfl, h3, h4, h5, h6⟩, hK⟩ := hv
      have hget : zs[i]? = some (zs.getD i D.dflt) := by simp [List.getD, List.getElem?_eq_getElem h3]
      have hfit : (zs.getD i D.dflt).fits sz := by
        cases h.heap id _ hh with
        | ar0 _ _ => simp at h3
        | ar us _ _ _ hs _ _ => exact hs _ (List.mem_of_getElem? hget)
      obtain ⟨g1, g2⟩ := newElem_ok hfit h5 h6 h4
      obtain ⟨w', r1, r2⟩ := h.storeElem hh ha ht hx hd hp h1 h3 (by omega) h5 hget h6 g1 g2
      exact ⟨w', _, loc, r1, hK, r2⟩
    · exact hv.elim
  · exact hv.elim

theorem tElem_e {t : TypeId} {es by' : Nat} {e : TypeId} (h : tElem P t = some (es, by', e)) : True := trivial

theorem vcAppend_sound {t t2 ty : TypeId} {s x : AV} {vs vx : Value} {dst : Option Nat} {K : AS → Prop} {ρ : Nat → Value} (h : RepL P c σ ρ w [] [] loc) (ha : RepA P w (okOf c w σ.hp loc) loc vs s) (hx : RepA P w (okOf c w σ.hp loc) loc vx x)
    (hv : vcAppend P σ dst t t2 s x K) : ∃ v y w' σ' loc', (Builtin.append_ #[t, t2] ty #[vs, vx]).run P w = .ok v w' ∧ K (σ'.put dst y) ∧ RepL P c σ' ρ w' [v] [y] loc' := by
  unfold vcAppend at hv
  split at hv
  · rename_i p ys es by' e q hs ht ht2
    split at hv
    · rename_i ag m z hz
      split at hv
      · split at hv
        · rename_i k
          obtain ⟨⟨h1, hp, h2, h3, h4, h5, h6⟩, hK⟩ := hv
          cases ha
          obtain ⟨v, w', loc', r1, r2, r3⟩ := h.appendNil (100 * k) h1 (ty := ty) ht ht2 hz h2 h3 hs hp hx h4 h5 h6
          exact ⟨v, _, w', _, loc', r1, hK, r2.setVal1 r3⟩
        · exact hv.elim
      · rename_i sz id off len
        split at hv
        · rename_i sz' zs hh
          obtain ⟨⟨h0, hp, rfl, rfl, h1, h2, h3, h4, h5, h6⟩, hK⟩ := hv
          obtain ⟨v, w', loc', r1, r2, r3⟩ := h.append h0 (ty := ty) ht ht2 hz h2 h3 hh h1 ha hs hp hx h4 h5 h6
          exact ⟨v, _, w', _, loc', r1, hK, r2.setVal1 r3⟩
        · exact hv.elim
      · exact hv.elim
    · exact hv.elim
  · exact hv.elim

theorem vcCopy_sound {t t2 ty : TypeId} {s x : AV} {vs vx : Value} {dst : Option Nat} {K : AS → Prop} {ρ : Nat → Value} (h : RepL P c σ ρ w [] [] loc) (ha : RepA P w (okOf c w σ.hp loc) loc vs s) (hx : RepA P w (okOf c w σ.hp loc) loc vx x)
    (hv : vcCopy P σ dst t s x K) : ∃ v y w' σ' loc', (Builtin.copy_ #[t, t2] ty #[vs, vx]).run P w = .ok v w' ∧ K (σ'.put dst y) ∧ RepL P c σ' ρ w' [v] [y] loc' := by
  unfold vcCopy at hv
  split at hv
  · rename_i p ys es by' e sz id off dl hs ht
    split at hv
    · rename_i sz' zs hh
      obtain ⟨⟨hp, rfl, rfl, rfl, h1, h2, h3⟩, hK⟩ := hv
      obtain ⟨w', r1, r2⟩ := h.copy hh ha h1 (t2 := t2) (ty := ty) ht hs hp hx h2 h3
      exact ⟨_, _, w', _, loc, r1, hK, r2.setVal1 (.int _ _)⟩
    · exact hv.elim
  · exact hv.elim

theorem vcMapPut_sound {t : TypeId} {m k x : AV} {vm vk vx : Value} {K : AS → Prop} {ρ : Nat → Value} (h : RepL P c σ ρ w [] [] loc) (hm : RepA P w (okOf c w σ.hp loc) loc vm m) (hk : RepA P w (okOf c w σ.hp loc) loc vk k) (hx : RepA P w (okOf c w σ.hp loc) loc vx x)
    (hv : vcMapPut σ (tMapI P t) m k x K) : ∃ w' σ', (Instr.mapUpdate t vm vk vx).run P w = .ok () w' ∧ K σ' ∧ RepL P c σ' ρ w' [] [] loc := by
  unfold vcMapPut at hv
  split at hv
  · rename_i kk ik id kd xd ht
    split at hv
    · rename_i es hid
      obtain ⟨⟨h1, h2, h3⟩, hK⟩ := hv
      obtain ⟨w', r1, r2⟩ := h.mapPut hid ht hm hk hx h1 h2 h3
      exact ⟨w', _, r1, hK, r2⟩
    · exact hv.elim
  · exact hv.elim

/-- What is shown of an operation that makes or writes memory, or of a call, suffices. -/
theorem vcAct_sound {fz : List Nat} {a : Act} {o : Oper} {K : AS → Prop} {N : Act → World → Prop} {Q : Exit → Act → World → Prop} (h : RepL P c σ (fun s => a.tmps.getD s undef) w [] [] loc) (hd : ∀ t, o.dst = some t → t < n) (hs : a.tmps.size = n) (hdf : a.defers = [])
    (hv : vcAct P fz σ o.dst o.op K) (hnext : ∀ σ' a' w', K σ' → Good P c n σ' a' w' → N a' w') : o.wp P a w N Q := by
  have heval := act_eval a
  have hcallop : ∀ cl, o.op = .call cl → vcCallOp P σ o.dst cl.callee cl.args.toList cl.argTypes.toList K → o.wp P a w N Q := by
    clear hv
    intro cl hop hv
    unfold vcCallOp at hv
    split at hv
    · rename_i s x t t2 e1 e2 e3
      obtain ⟨p1, p2, hv⟩ := hv
      obtain ⟨v, y, w', σ', loc', r1, r2, r3⟩ := vcAppend_sound (ty := o.type) h ((h.opd s).strip p1) ((h.opd x).strip p2) hv
      refine upon_val (v := v) (w' := w') ?_ (hnext _ _ _ r2 (.put hd hs hdf r3))
      have a1 : cl.args = #[s, x] := by rw [← Array.toArray_toList (xs := cl.args), e2]
      have a2 : cl.argTypes = #[t, t2] := by rw [← Array.toArray_toList (xs := cl.argTypes), e3]
      rw [heval]
      simp only [execOp, hop, resolve, e1, a1, a2, invoke, builtin, Sem.run_bind, Sem.run_pure, Result.andThen_ok, List.map_toArray, List.map_cons, List.map_nil, r1]
    · rename_i f args ats e1
      obtain ⟨p1, p2, hv⟩ := hv
      exact vcCall_sound hop e1 h p1 p2 hv fun x σ' v w' loc' hk hr => hnext _ _ _ hk (.put hd hs hdf hr)
    · rename_i s x t t2 e1 e2 e3
      obtain ⟨p1, p2, hv⟩ := hv
      obtain ⟨v, y, w', σ', loc', r1, r2, r3⟩ := vcCopy_sound (t2 := t2) (ty := o.type) h ((h.opd s).strip p1) ((h.opd x).strip p2) hv
      refine upon_val (v := v) (w' := w') ?_ (hnext _ _ _ r2 (.put hd hs hdf r3))
      have a1 : cl.args = #[s, x] := by rw [← Array.toArray_toList (xs := cl.args), e2]
      have a2 : cl.argTypes = #[t, t2] := by rw [← Array.toArray_toList (xs := cl.argTypes), e3]
      rw [heval]
      simp only [execOp, hop, resolve, e1, a1, a2, invoke, builtin, Sem.run_bind, Sem.run_pure, Result.andThen_ok, List.map_toArray, List.map_cons, List.map_nil, r1]
    · exact hv.elim
  obtain ⟨dst, op, type, pos, aft, guard⟩ := o
  simp only at hv hd hcallop
  unfold vcAct at hv
  split at hv <;> first | (exact hv.elim) | skip
  · rename_i K' t
    split at hv
    · rename_i k ag m z ht
      obtain ⟨h1, hK⟩ := hv
      obtain ⟨v, w', loc', r1, r2, r3⟩ := h.alloc (bId k) h1 ht
      refine upon_val (v := v) (w' := w') ?_ (hnext _ _ _ hK (.put hd hs hdf (r2.setVal1 r3)))
      simp only [execOp, Sem.run_bind, r1, Result.andThen_ok, Sem.run_pure]
    · exact hv.elim
  · rename_i K' t x
    split at hv
    · rename_i k ys hc
      obtain ⟨p1, hv⟩ := hv
      split at hv
      · obtain ⟨u, w', r1, r2, r3⟩ := h.boxDp t ((h.opd x).strip p1) hc
        refine upon_val (v := u) (w' := w') ?_ (hnext _ _ _ hv (.put hd hs hdf (r2.setVal1 r3)))
        rw [heval]
        simp only [execOp, Sem.run_bind, r1, Result.andThen_ok, Sem.run_pure]
      · obtain ⟨h1, hK⟩ := hv
        obtain ⟨u, w', loc', r1, r2, r3⟩ := h.box (100 * k) h1 t ((h.opd x).strip p1) hc
        refine upon_val (v := u) (w' := w') ?_ (hnext _ _ _ hK (.put hd hs hdf (r2.setVal1 r3)))
        rw [heval]
        simp only [execOp, Sem.run_bind, r1, Result.andThen_ok, Sem.run_pure]
    · exact hv.elim
  · rename_i K' t x y
    obtain ⟨rfl, p1, p2, hv⟩ := hv
    obtain ⟨w', σ', loc', r1, r2, r3⟩ := vcStore_sound h ((h.opd x).strip p1) ((h.opd y).strip p2) hv
    unfold Oper.wp
    rw [heval]
    have : (execOp (evalR fun s => a.tmps.getD s undef) { dst := none, op := .store t x y, type, pos, after := aft, guard }).run P w = .ok .skip w' := by
      simp only [execOp, Sem.run_bind, r1, Result.andThen_ok, Sem.run_pure]
    rw [this, Oper.upon_skip]
    exact hnext _ _ _ r2 ⟨⟨loc', r3⟩, hs, hdf⟩
  · rename_i K' t len parts
    split at hv
    · rename_i k es by' e ht
      split at hv
      · rename_i q p ys l hz hda
        obtain ⟨ag, m, z⟩ := q
        obtain ⟨⟨h1, h2, h3, h4, hp, h5, h6, h7⟩, hK⟩ := hv
        subst h4
        have hl : (parts.toList.map fun p => (p.1, evalR (fun s => a.tmps.getD s undef) p.2)).length = parts.size := by simp
        obtain ⟨v, w', loc', r1, r2, r3⟩ := h.buildSlice (100 * k) h1 ht hz (ps := parts.toList.map fun p => (p.1, evalR (fun s => a.tmps.getD s undef) p.2)) (avs := strips (parts.toList.map fun p => σ.opd p.2))
          (by rw [hl, ← h3]; simp [Function.comp_def]) (by simp [strips])
          (fun i p x hp hx => by
            simp only [strips, List.getElem?_map, Option.map_eq_some_iff] at hp hx
            obtain ⟨q, hq, rfl⟩ := hp
            obtain ⟨y, ⟨q', hq', rfl⟩, rfl⟩ := hx
            rw [hq] at hq'; simp only [Option.some.injEq] at hq'; subst hq'
            exact (h.opd q.2).strip (stripsP_get h2 i _ (by simp [hq]))) hda hp h5 h6 (by rw [hl]; exact h7)
        rw [hl] at r1 r3
        refine upon_val (v := v) (w' := w') ?_ (hnext _ _ _ hK (.put hd hs hdf (r2.setVal1 r3)))
        have he : (parts.toList.map fun p => (p.1, evalR (fun s => a.tmps.getD s undef) p.2)).toArray = parts.map fun p => (p.1, evalR (fun s => a.tmps.getD s undef) p.2) := by
          apply Array.ext'; simp
        rw [he] at r1
        rw [heval]
        simp only [execOp, Sem.run_bind, Result.andThen_ok, Sem.run_pure]
        rw [show (parts.map fun x => match x with | (i, x) => (i, evalR (fun s => a.tmps.getD s undef) x)) = parts.map fun p => (p.1, evalR (fun s => a.tmps.getD s undef) p.2) from rfl, r1]
        rfl
      · exact hv.elim
    · exact hv.elim
  · rename_i K' t l cp
    split at hv
    · rename_i k es by' e kl m kc q ht e1 e2
      split at hv
      · rename_i ag m' z hz
        split at hv
        · rename_i zd hzd
          obtain ⟨⟨h1, p1, p2, h2, h3, h4, h5, h6, h7⟩, hK⟩ := hv
          obtain ⟨v, w', loc', r1, r2, r3⟩ := h.makeSlice (100 * k) h1 ht hz hzd h6 h7 kl kc h2 h3 h4 h5
          have v1 := (h.opd l).strip p1
          have v2 := (h.opd cp).strip p2
          rw [e1] at v1; rw [e2] at v2
          refine upon_val (v := v) (w' := w') ?_ (hnext _ _ _ hK (.put hd hs hdf (r2.setVal1 r3)))
          rw [heval]
          simp only [execOp, Sem.run_bind, v1.inv_int, v2.inv_int, r1, Result.andThen_ok, Sem.run_pure]
        · exact hv.elim
      · exact hv.elim
    · exact hv.elim
  · rename_i K' cl
    exact hcallop cl rfl hv
  · rename_i K' t
    split at hv
    · rename_i k
      obtain ⟨h1, hK⟩ := hv
      obtain ⟨v, w', loc', r1, r2, r3⟩ := h.makeMap (100 * k) h1 t
      refine upon_val (v := v) (w' := w') ?_ (hnext _ _ _ hK (.put hd hs hdf (r2.setVal1 r3)))
      simp only [execOp, Option.map_none, Sem.run_bind, r1, Result.andThen_ok, Sem.run_pure]
    · exact hv.elim
  · rename_i K' t m k x
    obtain ⟨rfl, ⟨p1, p2, p3⟩, hv⟩ := hv
    obtain ⟨w', σ', r1, r2, r3⟩ := vcMapPut_sound h ((h.opd m).strip p1) ((h.opd k).strip p2) ((h.opd x).strip p3) hv
    unfold Oper.wp
    rw [heval]
    have : (execOp (evalR fun s => a.tmps.getD s undef) { dst := none, op := .insert t m k x, type, pos, after := aft, guard }).run P w = .ok .skip w' := by
      simp only [execOp, Sem.run_bind, r1, Result.andThen_ok, Sem.run_pure]
    rw [this, Oper.upon_skip]
    exact hnext _ _ _ r2 ⟨⟨loc, r3⟩, hs, hdf⟩
  · rename_i K' t m k x
    obtain ⟨rfl, ⟨p1, p2, p3⟩, hv⟩ := hv
    obtain ⟨w', σ', r1, r2, r3⟩ := vcMapPut_sound h ((h.opd m).strip p1) ((h.opd k).strip p2) ((h.opd x).strip p3) hv
    unfold Oper.wp
    rw [heval]
    have : (execOp (evalR fun s => a.tmps.getD s undef) { dst := none, op := .mapUpdate t m k x, type, pos, after := aft, guard }).run P w = .ok .skip w' := by
      simp only [execOp, Sem.run_bind, r1, Result.andThen_ok, Sem.run_pure]
    rw [this, Oper.upon_skip]
    exact hnext _ _ _ r2 ⟨⟨loc, r3⟩, hs, hdf⟩
  · rename_i K' t m k cok
    obtain ⟨⟨p1, p2⟩, hv⟩ := hv
    have hm := (h.opd m).strip p1
    have hk := (h.opd k).strip p2
    unfold vcMapGet at hv
    split at hv
    · rename_i kk ik id kd ht e1 e2
      split at hv
      · rename_i es hid
        obtain ⟨⟨h1, h2⟩, hK⟩ := hv
        rw [e1] at hm; rw [e2] at hk
        obtain ⟨v, r1, r2⟩ := h.mapGet hid ht hm hk h1 h2 cok
        refine upon_val (v := v) (w' := w) ?_ (hnext _ _ _ hK (.put hd hs hdf (h.setVal1 r2)))
        rw [heval]
        simp only [execOp, Sem.run_bind, r1, Result.andThen_ok, Sem.run_pure]
      · exact hv.elim
    · exact hv.elim

/-- One operation, the guard with it. -/
theorem vcOp_sound {fz : List Nat} {ops : Array Oper} {a : Act} {o : Oper} {K : AS → Prop} {N : Act → World → Prop} {Q : Exit → Act → World → Prop} (h : Good P c n σ a w) (hd : ∀ t, o.dst = some t → t < n) (hg : ∀ j b, o.guard = some (j, b) → ∀ t, (ops[j]?).bind (·.dst) = some t → t < n)
    (hv : vcOp P fz ops σ o K) (hnext : ∀ σ' a' w', K σ' → Good P c n σ' a' w' → N a' w') :
    if Region.wanted o (yielded ops a.tmps) then o.wp P a w N Q else N (a.put o.dst undef) w := by
  obtain ⟨⟨loc, hr⟩, hs, hdf⟩ := h
  have heval := act_eval a
  unfold vcOp at hv
  split at hv
  · rename_i hgd
    rw [if_pos (by simp [Region.wanted, hgd])]
    split at hv
    · rename_i q hq
      obtain ⟨hp, hK⟩ := hv
      obtain ⟨v, r1, r2⟩ := hr.fval o hq hp
      exact upon_val (by rw [heval]; exact r1) (hnext _ _ _ hK (.put hd hs hdf (hr.setVal1 r2)))
    · exact vcAct_sound hr hd hs hdf hv hnext
  · rename_i j want hgd
    split at hv
    · rename_i gb hgb
      have hw : Region.wanted o (yielded ops a.tmps) = gb := by
        simp only [Region.wanted, hgd]
        unfold guardAV at hgb
        split at hgb
        · rename_i t ht
          have hlt := hg j want hgd t ht
          have hy : yielded ops a.tmps j = match a.tmps.getD t undef with | .bool b => some b | _ => none := by
            simp only [yielded, ht, Option.bind_some]
            have hlt' : t < a.tmps.size := by rw [hs]; exact hlt
            have : a.tmps[t]? = some (a.tmps.getD t undef) := by
              rw [Array.getElem?_eq_getElem hlt', Array.getD_eq_getD_getElem?, Array.getElem?_eq_getElem hlt']; rfl
            rw [this]
            cases a.tmps.getD t undef <;> rfl
          have hrep := hr.slots t
          unfold gBool at hgb
          split at hgb
          · rename_i b e
            rw [e] at hrep
            simp only [Option.some.injEq] at hgb; subst hgb
            rw [hy, hrep.inv_bool]
            cases b <;> cases want <;> rfl
          · rename_i p b e
            rw [e] at hrep
            simp only [Option.some.injEq] at hgb; subst hgb
            generalize a.tmps.getD t undef = v at hrep hy
            cases hrep with | op h1 h2 =>
            rw [hy]
            cases p
            · rw [h2 rfl]; rfl
            · rw [(h1 rfl).inv_bool]; cases b <;> cases want <;> rfl
          · cases hgb
        · simp [gBool] at hgb
      rw [hw]
      split at hv
      · rename_i q hq
        obtain ⟨hp, hK⟩ := hv
        cases gb
        · rw [if_neg (by simp)]
          exact hnext _ _ _ hK (.put hd hs hdf (hr.setVal1 (RepA.mkOp (.op (fun h => by cases h) fun _ => rfl))))
        · rw [if_pos rfl]
          obtain ⟨v, r1, r2⟩ := hr.fval o hq (hp rfl)
          exact upon_val (by rw [heval]; exact r1) (hnext _ _ _ hK (.put hd hs hdf (hr.setVal1 (RepA.mkOp (.op (fun _ => r2) fun h => by cases h)))))
      · rcases hv with ⟨hv1, hv2⟩ | ⟨r, hv1, hv2⟩
        · cases gb
          · rw [if_neg (by simp)]
            exact hnext _ _ _ (hv2 rfl) (.put hd hs hdf (hr.setVal1 (.unk _)))
          · rw [if_pos rfl]
            exact vcAct_sound hr hd hs hdf (hv1 rfl) hnext
        · cases gb
          · rw [if_neg (by simp)]
            exact hnext _ _ _ hv2 (.put hd hs hdf (hr.setVal1 (.op (fun h => by cases h) fun _ => rfl)))
          · rw [if_pos rfl]
            replace hv1 := hv1 rfl
            unfold vcFun at hv1
            split at hv1
            · rename_i cl hop
              split at hv1
              · rename_i f hf
                obtain ⟨p1, p2, hv1⟩ := hv1
                refine vcCall_sound hop hf hr p1 p2 hv1 fun x σ' v w' loc' hk hr' => ?_
                obtain ⟨rfl, rfl⟩ := hk
                refine hnext _ _ _ hv2 (.put hd hs hdf (hr'.setVal1 (.op (fun _ => hr'.val1) fun h => by cases h)))
              · exact hv1.elim
            · exact hv1.elim
    · exact hv.elim

end
end Go.Fw
