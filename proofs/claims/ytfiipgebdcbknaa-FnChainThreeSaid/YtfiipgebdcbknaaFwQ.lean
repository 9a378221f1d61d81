/- Code: what is to be shown of it, and that it suffices; a function's contract out of its body. -/
import Derived.Test.YtfiipgebdcbknaaFwV
set_option linter.unusedSimpArgs false
set_option linter.unusedVariables false
namespace Go.Fw
open Go

inductive Ex where
  | normal
  | exit (id : Nat)
  | ret

/-- Whatever is the first state is the second one, too. -/
def Wk (P : Program) (σ σ' : AS) : Prop := ∀ (c : Ctx) (ρ : Nat → Value) (w : World) (loc : Nat → Option (Nat × Nat)), RepL P c σ ρ w [] [] loc → ∃ loc', RepL P c σ' ρ w [] [] loc'

theorem Wk.refl (P : Program) (σ : AS) : Wk P σ σ := fun _ _ _ l h => ⟨l, h⟩
theorem Wk.trans {P : Program} {a b d : AS} (h : Wk P a b) (k : Wk P b d) : Wk P a d := fun c ρ w l hr => let ⟨l', h'⟩ := h c ρ w l hr; k c ρ w l' h'

def seqQ (n : AS → Prop) (Q : Ex → AS → Prop) : Ex → AS → Prop
  | .normal, σ => n σ
  | e, σ => Q e σ
def blockQ (id : Nat) (Q : Ex → AS → Prop) : Ex → AS → Prop
  | .exit id', σ => if id' = id then Q .normal σ else Q (.exit id') σ
  | e, σ => Q e σ
def loopQ {G : Type} (P : Program) (I : G → AS) (μ : G → Nat) (g : G) (Q : Ex → AS → Prop) : Ex → AS → Prop
  | .normal, σ => ∃ g', Wk P σ (I g') ∧ μ g' < μ g
  | e, σ => Q e σ
def LoopVC (P : Program) (body : AS → (Ex → AS → Prop) → Prop) (σ : AS) (Q : Ex → AS → Prop) : Prop :=
  ∃ (G : Type) (I : G → AS) (μ : G → Nat) (g0 : G), Wk P σ (I g0) ∧ ∀ g, body (I g) (loopQ P I μ g Q)

/-- A region that draws its order: one schedule; and behind it, if need be, states that are written out. -/
def AnyVC (P : Program) (fz : List Nat) (ops : Array Oper) (σ : AS) (K : AS → Prop) : Prop :=
  (∃ sc : Sched, (Region.noSelect ops && schedOk ops (Array.replicate ops.size false) [] sc) = true ∧ vcSched P fz ops sc σ K) ∨
  ∃ (sc : Sched) (G : Type) (I : G → AS) (J : AS → G → Prop), (∀ σ g, J σ g → Wk P σ (I g)) ∧ (Region.noSelect ops && schedOk ops (Array.replicate ops.size false) [] sc) = true ∧ (vcSched P fz ops sc σ fun σ' => ∃ g, J σ' g) ∧ ∀ g, K (I g)

theorem AnyVC.one {P : Program} {fz : List Nat} {ops : Array Oper} {σ : AS} {K : AS → Prop} (sc : Sched) (h : (Region.noSelect ops && schedOk ops (Array.replicate ops.size false) [] sc) = true) (hv : vcSched P fz ops sc σ K) : AnyVC P fz ops σ K := .inl ⟨sc, h, hv⟩
theorem AnyVC.cut {P : Program} {fz : List Nat} {ops : Array Oper} {σ : AS} {K : AS → Prop} (G : Type) (I : G → AS) (sc : Sched) (h : (Region.noSelect ops && schedOk ops (Array.replicate ops.size false) [] sc) = true) (hv : vcSched P fz ops sc σ fun σ' => ∃ g, Wk P σ' (I g)) (hk : ∀ g, K (I g)) : AnyVC P fz ops σ K := .inr ⟨sc, G, I, fun σ g => Wk P σ (I g), fun _ _ h => h, h, hv, hk⟩

def condVC (x : AV) (a b : Prop) : Prop :=
  match x with
  | .d (.bool p) => (p = true → a) ∧ (p = false → b)
  | _ => False

def VC (P : Program) (fz : List Nat) : Code → AS → (Ex → AS → Prop) → Prop
  | .skip, σ, Q => Q .normal σ
  | .region _ ops draw, σ, Q => match draw with
    | false => vcOps P fz ops ops.toList σ (Q .normal)
    | true => AnyVC P fz ops σ (Q .normal)
  | .seq a b, σ, Q => VC P fz a σ (seqQ (fun σ' => VC P fz b σ' Q) Q)
  | .cond c a b, σ, Q => condVC (σ.opd c) (VC P fz a σ Q) (VC P fz b σ Q)
  | .block id c, σ, Q => VC P fz c σ (blockQ id Q)
  | .exit id, σ, Q => Q (.exit id) σ
  | .ret, σ, Q => Q .ret σ
  | .loop c, σ, Q => LoopVC P (VC P fz c) σ Q
  | _, _, _ => False

/-- All that the code writes lies within 'n' slots. -/
def slotsOk (n : Nat) : Code → Bool
  | .region _ ops _ => ops.all fun o => match o.dst with | some t => decide (t < n) | none => true
  | .seq a b => slotsOk n a && slotsOk n b
  | .cond _ a b => slotsOk n a && slotsOk n b
  | .block _ c => slotsOk n c
  | .loop c => slotsOk n c
  | _ => true

section
variable {P : Program} {c : Ctx} {n : Nat} {fz : List Nat}

def exOf : Exit → Option Ex
  | .normal => some .normal
  | .exit id => some (.exit id)
  | .ret => some .ret
  | _ => none

/-- The postcondition of code, from that over states. -/
def liftQ (P : Program) (c : Ctx) (n : Nat) (Q : Ex → AS → Prop) (e : Exit) (a : Act) (w : World) : Prop :=
  ∃ ex σ, exOf e = some ex ∧ Q ex σ ∧ Good P c n σ a w

theorem ops_dst {ops : Array Oper} (h : (ops.all fun o => match o.dst with | some t => decide (t < n) | none => true) = true) {i : Nat} {o : Oper} (ho : ops[i]? = some o) : ∀ t, o.dst = some t → t < n := by
  intro t ht
  rw [Array.all_eq_true'] at h
  have := h o (Array.mem_of_getElem? ho)
  rw [ht] at this
  simpa using this

theorem vcOps_sound {ops : Array Oper} (hops : (ops.all fun o => match o.dst with | some t => decide (t < n) | none => true) = true) : ∀ (l : List Oper) (σ : AS) (a : Act) (w : World) {K : AS → Prop} {Q : Exit → Act → World → Prop}, (∀ o ∈ l, ∃ i : Nat, ops[i]? = some o) → Good P c n σ a w → vcOps P fz ops l σ K →
    (∀ σ' a' w', K σ' → Good P c n σ' a' w' → Q .normal a' w') → wpList P ops Q l a w
  | [], σ, a, w, K, Q, _, hg, hv, hn => hn σ a w hv hg
  | o :: r, σ, a, w, K, Q, hl, hg, hv, hn => by
    obtain ⟨i, hi⟩ := hl o (by simp)
    have := vcOp_sound (N := wpList P ops Q r) (Q := Q) hg (ops_dst hops hi) (fun j b _ t ht => by
      cases hj : ops[j]? with
      | none => simp [hj] at ht
      | some oj => rw [hj] at ht; exact ops_dst hops hj t ht) hv fun σ' a' w' hk hg' => vcOps_sound hops r σ' a' w' (fun o ho => hl o (by simp [ho])) hg' hk hn
    unfold wpList
    split
    · rename_i hw; rw [if_pos hw] at this; exact .inl this
    · rename_i hw; rw [if_neg hw] at this; exact this

theorem Good.wk {σ σ' : AS} {a : Act} {w : World} (h : Good P c n σ a w) (hw : Wk P σ σ') : Good P c n σ' a w :=
  let ⟨⟨l, hr⟩, h2, h3⟩ := h
  ⟨hw c _ w l hr, h2, h3⟩

theorem Good.drawn {σ : AS} {a : Act} {w : World} (h : Good P c n σ a w) (k : Nat) : Good P c n σ a { w with drawn := k } :=
  let ⟨⟨l, hr⟩, h2, h3⟩ := h
  ⟨⟨l, hr.ext' (ExtW.drawn w k)⟩, h2, h3⟩

/-- What is shown of code suffices. -/
theorem VC_sound (hm : P.follows .mixedOrders = true) : ∀ (code : Code) (σ : AS) (Q : Ex → AS → Prop) (a : Act) (w : World), slotsOk n code = true → Good P c n σ a w → VC P fz code σ Q → code.wp P (liftQ P c n Q) a w
  | .skip, σ, Q, a, w, _, hg, hv => wp_skip ⟨.normal, σ, rfl, hv, hg⟩
  | .region id ops false, σ, Q, a, w, hs, hg, hv => by
    refine wp_region_list ?_
    exact vcOps_sound (by simpa [slotsOk] using hs) ops.toList σ a w (fun o ho => by
      obtain ⟨i, hi⟩ := List.mem_iff_getElem?.1 ho
      exact ⟨i, by rwa [Array.getElem?_toList] at hi⟩) hg hv fun σ' a' w' hk hg' => ⟨.normal, σ', rfl, hk, hg'⟩
  | .region id ops true, σ, Q, a, w, hs, hg, hv => by
    refine wp_region_any hm ?_
    rcases hv with ⟨sc, h1, h2⟩ | ⟨sc, G, I, J, h0, h1, h2, h3⟩
    · simp only [Bool.and_eq_true] at h1
      refine any_of_sched sc h1.1 (fun i d hd => ?_) h1.2 (fun ch a w ⟨ex, σ', he, _⟩ => by simp [exOf] at he) (fun σ' a' w' hk hg' => ⟨.normal, σ', rfl, hk, hg'⟩) (hg.drawn _) h2
      cases ho : ops[i]? with
      | none => simp [dstOf, ho] at hd
      | some o => exact ops_dst (by simpa [slotsOk] using hs) ho d (by simpa [dstOf, ho] using hd)
    · simp only [Bool.and_eq_true] at h1
      refine any_of_sched sc h1.1 (fun i d hd => ?_) h1.2 (fun ch a w ⟨ex, σ', he, _⟩ => by simp [exOf] at he) (fun σ' a' w' ⟨g, hk⟩ hg' => ⟨.normal, I g, rfl, h3 g, hg'.wk (h0 _ _ hk)⟩) (hg.drawn _) h2
      cases ho : ops[i]? with
      | none => simp [dstOf, ho] at hd
      | some o => exact ops_dst (by simpa [slotsOk] using hs) ho d (by simpa [dstOf, ho] using hd)
  | .seq x y, σ, Q, a, w, hs, hg, hv => by
    simp only [slotsOk, Bool.and_eq_true] at hs
    refine wp_seq (wp_mono (VC_sound hm x σ _ a w hs.1 hg hv) fun e a' w' ⟨ex, σ', he, hq, hg'⟩ => ?_)
    cases e <;> simp only [exOf, Option.some.injEq] at he <;> first | (cases he; done) | skip
    · subst he; exact VC_sound hm y σ' Q a' w' hs.2 hg' hq
    · subst he; exact ⟨_, σ', rfl, hq, hg'⟩
    · subst he; exact ⟨_, σ', rfl, hq, hg'⟩
  | .cond x y z, σ, Q, a, w, hs, hg, hv => by
    simp only [slotsOk, Bool.and_eq_true] at hs
    simp only [VC] at hv
    unfold condVC at hv
    split at hv
    · rename_i p e
      obtain ⟨⟨l, hr⟩, h2, h3⟩ := hg
      have hx := hr.opd x
      rw [e] at hx
      have hval : a.eval x = .bool p := by rw [act_eval]; exact hx.inv_bool
      refine wp_cond_split hval (fun hp => ?_) (fun hp => ?_)
      · exact VC_sound hm y σ Q a w hs.1 ⟨⟨l, hr⟩, h2, h3⟩ (hv.1 hp)
      · exact VC_sound hm z σ Q a w hs.2 ⟨⟨l, hr⟩, h2, h3⟩ (hv.2 hp)
    · exact hv.elim
  | .block id x, σ, Q, a, w, hs, hg, hv => by
    simp only [slotsOk] at hs
    refine wp_block (wp_mono (VC_sound hm x σ _ a w hs hg hv) fun e a' w' ⟨ex, σ', he, hq, hg'⟩ => ?_)
    cases e <;> simp only [exOf, Option.some.injEq] at he <;> first | (cases he; done) | skip
    · subst he; exact ⟨_, σ', rfl, hq, hg'⟩
    · rename_i id'
      subst he
      simp only [blockQ] at hq
      simp only [Exit.inBlock]
      split at hq
      · rename_i h1; rw [if_pos h1]; exact ⟨_, σ', rfl, hq, hg'⟩
      · rename_i h1; rw [if_neg h1]; exact ⟨_, σ', rfl, hq, hg'⟩
    · subst he; exact ⟨_, σ', rfl, hq, hg'⟩
  | .exit id, σ, Q, a, w, _, hg, hv => wp_exit ⟨.exit id, σ, rfl, hv, hg⟩
  | .ret, σ, Q, a, w, _, hg, hv => wp_ret ⟨.ret, σ, rfl, hv, hg⟩
  | .loop x, σ, Q, a, w, hs, hg, hv => by
    simp only [slotsOk] at hs
    obtain ⟨G, I, μ, g0, h0, hround⟩ := hv
    intro b kk cs
    have key : ∀ (k : Nat) (g : G) (a : Act) (w : World), μ g = k → Good P c n (I g) a w →
        ∃ e a' w', liftQ P c n Q e a' w' ∧ Arrives P (lone (b.at a (.code x :: .inLoop x :: kk)) cs w) b kk cs e a' w' := by
      intro k
      induction k using Nat.strongRecOn with
      | _ k ih =>
        intro g a w hk hg'
        have hb := VC_sound hm x (I g) _ a w hs hg' (hround g)
        obtain ⟨e, a1, w1, hq, harr⟩ := hb b (.inLoop x :: kk) cs
        obtain ⟨ex, σ', he, hq', hg1⟩ := hq
        cases e <;> simp only [exOf, Option.some.injEq] at he <;> first | (cases he; done) | skip
        · subst he
          obtain ⟨g', hw', hlt⟩ := hq'
          obtain ⟨e2, a2, w2, hq2, harr2⟩ := ih (μ g') (hk ▸ hlt) g' a1 w1 rfl (hg1.wk hw')
          exact ⟨e2, a2, w2, hq2, .of_steps (Steps.trans harr (.one step_inLoop)) harr2⟩
        · subst he; exact ⟨_, a1, w1, ⟨_, σ', rfl, hq', hg1⟩, .pass (x := .inLoop x) rfl (fun _ _ => .inl (by simp)) harr⟩
        · subst he; exact ⟨_, a1, w1, ⟨_, σ', rfl, hq', hg1⟩, .pass (x := .inLoop x) rfl (fun _ _ => .inl (by simp)) harr⟩
    obtain ⟨e, a', w', hq, harr⟩ := key _ g0 a w rfl (hg.wk h0)
    exact ⟨e, a', w', hq, .of_steps (.one step_loop) harr⟩
  | .rangeFunc _ _ _ _, _, _, _, _, _, _, hv => hv.elim
  | .scope _, _, _, _, _, _, _, hv => hv.elim
  | .label _, _, _, _, _, _, _, hv => hv.elim
  | .goto _, _, _, _, _, _, _, hv => hv.elim
  | .refuse _, _, _, _, _, _, _, hv => hv.elim

/-! ### A function -/

/-- What a function hands back. -/
def resOne (P : Program) (σ : AS) : ResultVar → PA
  | .tmp t => (True, σ.sl t)
  | .cell a t => fLoad P t σ.hp (σ.sl a)
def resAll (P : Program) (σ : AS) : List ResultVar → Prop × List AV
  | [] => (True, [])
  | r :: l => ((resOne P σ r).1 ∧ (resAll P σ l).1, (resOne P σ r).2 :: (resAll P σ l).2)
def resAV (P : Program) (σ : AS) (l : List ResultVar) : PA :=
  match (resAll P σ l).2 with
  | [x] => ((resAll P σ l).1, x)
  | xs => ((resAll P σ l).1, .tp xs)

/-- The result and the blocks that are handed back, out of the state at the end. -/
def RetVC (P : Program) (keys : List Nat) (σ : AS) (x : AV) (K : AV → List Blk → List (Nat × Blk) → Prop) : Prop :=
  ∃ x' bs res, K x' bs res ∧ bs.length = keys.length ∧ (∀ p ∈ res, 100 ≤ p.1) ∧
    ∀ (c : Ctx) (ρ : Nat → Value) (w : World) (v : Value) (loc : Nat → Option (Nat × Nat)), RepL P c σ ρ w [v] [x] loc → ∃ loc', RepL P c (st (keys.zip bs ++ res)) (fun _ => undef) w [v] [x'] loc'

def retQ (P : Program) (keys : List Nat) (rs : List ResultVar) (K : AV → List Blk → List (Nat × Blk) → Prop) : Ex → AS → Prop
  | .exit _, _ => False
  | _, σ => (resAV P σ rs).1 ∧ RetVC P keys σ (resAV P σ rs).2 K

/-- The state at a function's entry. -/
def entryS (args : List AV) (hs : List (Nat × Blk)) : AS := ⟨fun s => (args[s]?).getD .unk, hpOf hs, (st hs).used⟩

theorem results_ok {fn : Func} {σ : AS} {a : Act} {w : World} {loc : Nat → Option (Nat × Nat)} (h : RepL P c σ (fun s => a.tmps.getD s undef) w [] [] loc) (hp : (resAV P σ fn.results.toList).1) :
    ∃ v, (results fn a.tmps).run P w = .ok v w ∧ RepA P w (okOf c w σ.hp loc) loc v (resAV P σ fn.results.toList).2 := by
  have one : ∀ r : ResultVar, (resOne P σ r).1 → ∃ v, ((match r with | .tmp t => pure (a.tmps.getD t undef) | .cell x t => do loadVar t (← asAddr (a.tmps.getD x undef)) : Sem Value)).run P w = .ok v w ∧ RepA P w (okOf c w σ.hp loc) loc v (resOne P σ r).2 := by
    intro r hr
    cases r with
    | tmp t => exact ⟨_, rfl, h.slots t⟩
    | cell x t =>
      obtain ⟨u, hu, hr'⟩ := h.load hr (h.slots x)
      refine ⟨u, ?_, hr'⟩
      have hs := h.slots x
      simp only [Instr.loadAt, Sem.run_bind] at hu
      simp only [Sem.run_bind]
      generalize hv : a.tmps.getD x undef = v at hs hu ⊢
      have hptr : ∃ q, v = .pointer (some q) := by
        simp only [resOne] at hr
        unfold fLoad at hr
        split at hr
        · rename_i e; rw [e] at hs; cases hs with | ptr _ => exact ⟨_, rfl⟩
        · rename_i e; rw [e] at hs; cases hs with | dp _ _ _ _ _ => exact ⟨_, rfl⟩
        · rename_i e; rw [e] at hs; cases hs with | ep _ => exact ⟨_, rfl⟩
        · exact hr.elim
      obtain ⟨q, rfl⟩ := hptr
      simpa [Instr.sureAddr, asAddr] using hu
  have all : ∀ l : List ResultVar, (resAll P σ l).1 → ∃ vs : List Value, (l.mapM (m := Sem) fun r => match r with | .tmp t => pure (a.tmps.getD t undef) | .cell x t => do loadVar t (← asAddr (a.tmps.getD x undef))).run P w = .ok vs w ∧
      vs.length = (resAll P σ l).2.length ∧ ∀ (i : Nat) v x, vs[i]? = some v → (resAll P σ l).2[i]? = some x → RepA P w (okOf c w σ.hp loc) loc v x := by
    intro l
    induction l with
    | nil => intro _; exact ⟨[], rfl, rfl, fun i v x hv => by simp at hv⟩
    | cons r l ih =>
      intro hl
      obtain ⟨v, hv, hr⟩ := one r hl.1
      obtain ⟨vs, hvs, hlen, hr2⟩ := ih hl.2
      refine ⟨v :: vs, ?_, by simp [resAll, hlen], fun i u x hu hx => ?_⟩
      · rw [List.mapM_cons, Sem.run_bind, hv, Result.andThen_ok, Sem.run_bind, hvs]; rfl
      · cases i with
        | zero => simp [resAll] at hu hx; subst hu; subst hx; exact hr
        | succ i => simp [resAll] at hu hx; exact hr2 i u x hu hx
  have hp1 : (resAll P σ fn.results.toList).1 := by
    unfold resAV at hp; split at hp <;> exact hp
  obtain ⟨vs, hvs, hlen, hr⟩ := all fn.results.toList hp1
  have hmap : (results fn a.tmps).run P w = .ok (if h : vs.toArray.size = 1 then vs.toArray[0] else .tuple vs.toArray) w := by
    unfold results
    rw [Array.mapM_eq_mapM_toList, Sem.run_bind, Sem.run_map]
    erw [hvs]
    rfl
  refine ⟨_, hmap, ?_⟩
  unfold resAV
  generalize (resAll P σ fn.results.toList).2 = l2 at hlen hr ⊢
  clear hmap hvs
  match l2, vs, hlen, hr with
  | [], [], _, _ => exact .tp rfl fun i v x hv => by simp at hv
  | [x], [v], _, hr => exact hr 0 v x rfl rfl
  | x :: y :: r, v :: u :: t, hlen, hr =>
    have hn1 : ¬ (v :: u :: t).toArray.size = 1 := by simp
    rw [dif_neg hn1]
    exact .tp (by simpa using hlen) fun i v x hv hx => hr i v x (by simpa using hv) hx

/-- The contract of a function, out of its body. -/
theorem acalls_of_vcQ {f : FuncId} {fn : Func} {code : Code} (hm : P.follows .mixedOrders = true) (hf : P.funcs[f]? = some fn) (hb : fn.body = some code) (fz : List Nat) (hst : slotsOk fn.ntmps code = true) {args : List AV} {hs : List (Nat × Blk)} {K : AV → List Blk → List (Nat × Blk) → Prop}
    (hargs : args.length ≤ fn.ntmps) {Q : Ex → AS → Prop} (hQ : ∀ ex σ, Q ex σ → retQ P (hs.map Prod.fst) fn.results.toList K ex σ) (hv : VC P fz code (entryS args hs) Q) : ACalls P f args hs K := by
  intro c vals hr
  refine calls_of_wp hf hb ?_
  have hsize : vals.length ≤ fn.ntmps := by rw [hr.len]; exact hargs
  have hgood : Good P c fn.ntmps (entryS args hs) { tmps := vals.toArray ++ Array.replicate (fn.ntmps - vals.toArray.size) undef, defers := [] } c.w0 := by
    refine ⟨⟨c.floc, fun s => ?_, rfl, fun i v x hv => by simp at hv, hr.heap, hr.inj, hr.own, hr.ext, hr.fix, hr.dom, hr.liveU⟩, by simp; omega, rfl⟩
    simp only [entryS]
    by_cases hs' : s < vals.length
    · have h1 : (vals.toArray ++ Array.replicate (fn.ntmps - vals.toArray.size) undef).getD s undef = vals[s] := by
        rw [Array.getD_eq_getD_getElem?, Array.getElem?_append, if_pos (by simpa using hs')]; simp [hs']
      have hs2 : s < args.length := by rw [← hr.len]; exact hs'
      rw [h1, List.getElem?_eq_getElem hs2]
      exact hr.vals s vals[s] args[s] (List.getElem?_eq_getElem hs') (List.getElem?_eq_getElem hs2)
    · have hs2 : args.length ≤ s := by rw [← hr.len]; omega
      rw [List.getElem?_eq_none hs2]; exact .unk _
  refine wp_mono (VC_sound hm code _ _ _ _ hst hgood hv) fun e a w ⟨ex, σ', he, hq, hg⟩ => ?_
  replace hq := hQ ex σ' hq
  have fin : (resAV P σ' fn.results.toList).1 ∧ RetVC P (hs.map Prod.fst) σ' (resAV P σ' fn.results.toList).2 K → a.defers = [] ∧ ∃ v, (results fn a.tmps).run P w = .ok v w ∧ ∃ v' x bs res loc', Ending.returned v = .returned v' ∧ K x bs res ∧ bs.length = hs.length ∧ (∀ p ∈ res, 100 ≤ p.1) ∧
      RepL P c (st ((hs.map Prod.fst).zip bs ++ res)) (fun _ => undef) w [v'] [x] loc' := by
    intro ⟨hp, x', bs, res, hk, hbl, hres, hret⟩
    obtain ⟨⟨l, hrep⟩, _, hdf⟩ := hg
    obtain ⟨v, hv, hr⟩ := results_ok hrep hp
    obtain ⟨loc', hfin⟩ := hret c _ w v l (hrep.setVal1 hr)
    exact ⟨hdf, v, hv, v, x', bs, res, loc', rfl, hk, by simpa using hbl, hres, hfin⟩
  cases e <;> simp only [exOf, Option.some.injEq] at he <;> first | (cases he; done) | skip
  · subst he; exact fin hq
  · subst he; exact hq.elim
  · subst he; exact fin hq

theorem acalls_of_vc {f : FuncId} {fn : Func} {code : Code} (hm : P.follows .mixedOrders = true) (hf : P.funcs[f]? = some fn) (hb : fn.body = some code) (fz : List Nat) (hst : slotsOk fn.ntmps code = true) {args : List AV} {hs : List (Nat × Blk)} {K : AV → List Blk → List (Nat × Blk) → Prop}
    (hargs : args.length ≤ fn.ntmps) (hv : VC P fz code (entryS args hs) (retQ P (hs.map Prod.fst) fn.results.toList K)) : ACalls P f args hs K :=
  acalls_of_vcQ hm hf hb fz hst hargs (fun _ _ h => h) hv

end
end Go.Fw
