/- Functions with several results; functions that are handed one block to write, by a pointer. -/
import Derived.Test.YtfiipgebdcbknaaFwS
set_option linter.unusedSimpArgs false
set_option linter.unusedVariables false
namespace Go.Fw
open Go

section
variable {P : Program} {fz : List Nat} {σ : AS} {Q : Ex → AS → Prop} {K : AS → Prop}

/-- A guarded call that may write: both ways. -/
theorem GCall.go {dst : Option Nat} {f : FuncId} {args : Array Operand} {ats : Array TypeId} {g : Bool} {xs : List AV} (hcb : callable P f = true) (hs : g = true → stripsP xs) (ht : g = true → CallVC P f (strips xs) σ (kPut dst K)) (hf : g = false → K (σ.put dst .unk)) :
    GCall P fz σ dst f args ats xs g K := by
  intro hx
  refine .inl ⟨fun hg => ?_, hf⟩
  have h1 := hs hg
  have h2 := ht hg
  subst hx
  refine ⟨trivial, h1, ?_⟩
  simp only [opd_func, AV.strip, call_fv]
  refine ⟨hcb, ?_⟩
  simp only [List.nil_append, List.append_nil]
  exact h2

/-- Behind a drawn region, states that are written out. -/
theorem AnyVC.cutAt {ops : Array Oper} (G : Type) (slots : G → List (Nat × AV)) (heap : G → List (Nat × Blk)) (used : List Nat) (sc : Sched) (h : (Region.noSelect ops && schedOk ops (Array.replicate ops.size false) [] sc) = true)
    (hv : vcSched P fz ops sc σ fun σ' => ∃ g, slotsLe σ' used (slots g) ∧ heapLe σ' used (heap g)) (hk : ∀ g, K (mkS (slots g) (heap g) used)) : AnyVC P fz ops σ K :=
  .inr ⟨sc, G, fun g => mkS (slots g) (heap g) used, fun σ' g => slotsLe σ' used (slots g) ∧ heapLe σ' used (heap g), fun _ _ h => .mk h.1 h.2, h, hv, hk⟩

theorem CallVC.dvalE {f : FuncId} {xs ys ys' : List AV} {p : Prop} {l : List Nat} {v : D} {K : AV → AS → Prop} (hc : DCalls P f ys fun r => r = v) (hv : viewL P σ.hp xs = some (p, ys', l)) (he : ys' = ys) (hp : p) (hf : v.flat = true) (hk : K (.d v) σ) : CallVC P f xs σ K :=
  .dval hc (he ▸ hv) hp hf hk
theorem GCall.flatE {dst : Option Nat} {f : FuncId} {args : Array Operand} {ats : Array TypeId} {g : Bool} {xs ys ys' : List AV} {p : Prop} {l : List Nat} {v : D}
    (hc : g = true → DCalls P f ys fun r => r = v) (hv : viewL P σ.hp (strips xs) = some (p, ys', l)) (he : ys' = ys) (hs : g = true → stripsP xs ∧ p) (hf : v.flat = true) (hcb : callable P f = true) (hk : K (σ.put dst (.op g (.d v)))) : GCall P fz σ dst f args ats xs g K :=
  .flat hc (he ▸ hv) hs hf hcb hk

/-! ### A slice of the frame's own, taken as a datum from now on -/

theorem Wk.frz (s : Nat) {p : Prop} {y : D} {l : List Nat} (hd : toD σ.hp (σ.sl s) = some (p, y, l)) (hp : p) : Wk P σ ((σ.withHp (σ.hp.dropL l)).put (some s) (.d y)) := by
  intro c ρ w loc h
  have hv := toD_rep h hd hp (h.slots s) (l' := l) fun i hi => hi
  have h2 := RepL.dropL l h
  refine ⟨loc, fun t => ?_, h2.len, h2.vals, h2.heap, h2.inj, h2.own, h2.ext, h2.fix, h2.dom, h2.liveU⟩
  simp only [AS.put, AS.withHp, upd]
  by_cases ht : t = s
  · subst ht; rw [if_pos rfl]; exact .d hv
  · rw [if_neg ht]; exact h2.slots t
theorem LoopVC.wk {σ' : AS} {body : AS → (Ex → AS → Prop) → Prop} (h : Wk P σ σ') (hl : LoopVC P body σ' Q) : LoopVC P body σ Q :=
  let ⟨G, I, μ, g0, h0, hr⟩ := hl
  ⟨G, I, μ, g0, h.trans h0, hr⟩

/-- A nil slice in a cell of a block is taken as one of the frame's own. -/
theorem Wk.adoptBx (id i k sz : Nat) {cs : List AV} (hh : σ.hp.heap id = some (.bx cs)) (hi : cs[i]? = some .nl) (hf : σ.free k) :
    Wk P σ ((σ.new k (.ar sz [])).withHp ((σ.new k (.ar sz [])).hp.set id (.bx (cs.set i (.sl sz k 0 0))))) := by
  intro c ρ w loc h
  have h2 := h.adopt k hf sz
  have hne : id ≠ k := fun e => by
    have h1 := h.liveU id (by simp [Live, hh])
    have h3 := hf.2
    rw [← e, h1] at h3; cases h3
  have hh2 : (σ.new k (.ar sz [])).hp.heap id = some (.bx cs) := by simp [AS.new, HP.set, upd, hne, hh]
  have hlive : Live (σ.new k (.ar sz [])).hp id := by unfold Live; rw [hh2]; simp
  cases h2.heap id _ hh2 with | @bx b cur T _ hl hb hz hcs =>
  refine ⟨loc, h2.write id b 0 _ hlive hl (Shapes.refl w) ⟨rfl, rfl, rfl⟩ rfl (fun _ _ => rfl) fun hk => ?_⟩
  refine .bx hl hb (by simpa using hz) fun j v y hv hy => ?_
  rw [List.getElem?_set] at hy
  split at hy
  · rename_i hij
    subst hij
    split at hy
    · simp only [Option.some.injEq] at hy; subst hy
      have := hcs i v .nl hv hi
      cases this; exact .sl0 none sz k 0
    · cases hy
  · exact (hcs j v y hv hy).mono (fun b hb => hk b hb) (Shapes.refl w)

/-! ### Several results, all of them data -/

/-- Functions that only read, and answer with several data. -/
def TCalls (P : Program) (f : FuncId) (args : List AV) (R : List D → Prop) : Prop := ACalls P f args [] fun x _ res => (∃ r, x = .tp (r.map .d) ∧ R r) ∧ res = []

theorem RetVC.toDT {xs : List AV} {p : Prop} {ys : List D} {l : List Nat} {K : AV → List Blk → List (Nat × Blk) → Prop} (hd : Fw.toDA σ.hp xs = some (p, ys, l)) (hp : p) (hk : K (.tp (ys.map .d)) [] []) : RetVC P [] σ (.tp xs) K :=
  ⟨.tp (ys.map .d), [], [], hk, rfl, by simp, fun c ρ w v loc h => by
    obtain ⟨h1, h2⟩ := toDA_rep h hd hp (l' := l) fun i hi => hi
    have hv := h.val1
    have hv' : RepA P w (okOf c w (σ.hp.dropL l) loc) loc v (.tp (ys.map .d)) := by
      cases hv with | tp hs hc =>
      refine .tp (by simp [hs, h1]) fun i u y hu hy => ?_
      simp only [List.getElem?_map, Option.map_eq_some_iff] at hy
      obtain ⟨y', hy', rfl⟩ := hy
      have hi : i < xs.length := by have := (List.getElem?_eq_some_iff.1 hy').1; omega
      exact .d (h2 i u xs[i] y' (List.getElem?_eq_getElem hi) hy' (hc i u xs[i] hu (List.getElem?_eq_getElem hi)))
    exact ((RepL.dropL l h).setVal1 hv').cut [] (by simp [lookH]) (by simp [AV.kp, AV.kpL_eq])⟩

def retTF (p : Prop) (q : Option (Prop × List D × List Nat)) (R : List D → Prop) : Prop :=
  match q with
  | some (q, y, _) => p ∧ q ∧ R y
  | none => False
def retTP (σ : AS) (q : PA) (R : List D → Prop) : Prop := match q with
  | (p, .tp xs) => retTF p (Fw.toDA σ.hp xs) R
  | _ => False
def retT (P : Program) (rs : List ResultVar) (R : List D → Prop) : Ex → AS → Prop
  | .exit _, _ => False
  | _, σ => retTP σ (resAV P σ rs) R
theorem retT_r {rs : List ResultVar} {R : List D → Prop} : retT P rs R .ret σ = retTP σ (resAV P σ rs) R := rfl
theorem retT_n {rs : List ResultVar} {R : List D → Prop} : retT P rs R .normal σ = retTP σ (resAV P σ rs) R := rfl
theorem retTP_is {p : Prop} {xs : List AV} {R : List D → Prop} : retTP σ (p, .tp xs) R = retTF p (Fw.toDA σ.hp xs) R := rfl
theorem retTF_some {p q : Prop} {y : List D} {l : List Nat} {R : List D → Prop} : retTF p (some (q, y, l)) R = (p ∧ q ∧ R y) := rfl

theorem tcalls_intro {f : FuncId} {fn : Func} {code : Code} {n : Nat} {rs : List ResultVar} (hm : P.follows .mixedOrders = true) (hf : P.funcs[f]? = some fn) (hb : fn.body = some code) (hn : fn.ntmps = n) (hr : fn.results.toList = rs)
    (fz : List Nat) (hst : slotsOk n code = true) {args : List AV} {R : List D → Prop}
    (hargs : args.length ≤ n) (hv : VC P fz code (entryS args []) (retT P rs R)) : TCalls P f args R := by
  subst hn; subst hr
  refine acalls_of_vcQ hm hf hb fz hst hargs (Q := retT P fn.results.toList R) (fun ex σ h => ?_) hv
  have key : retTP σ (resAV P σ fn.results.toList) R → (resAV P σ fn.results.toList).1 ∧ RetVC P [] σ (resAV P σ fn.results.toList).2 fun x _ res => (∃ r, x = .tp (r.map .d) ∧ R r) ∧ res = [] := fun h => by
    generalize resAV P σ fn.results.toList = q at h ⊢
    unfold retTP at h
    split at h
    · rename_i p xs
      unfold retTF at h
      split at h
      · rename_i q y l e
        exact ⟨h.1, .toDT e h.2.1 ⟨⟨_, rfl, h.2.2⟩, rfl⟩⟩
      · exact h.elim
    · exact h.elim
  cases ex with
  | exit i => exact h
  | normal => exact key h
  | ret => exact key h

theorem back_tpd (ys : List D) (g : Nat → Nat) (base : Nat) (keys : List Nat) (res : List (Nat × Blk)) : (AV.tp (ys.map .d)).back g base keys res = .tp (ys.map .d) := by
  simp only [AV.back, AV.kp, AV.ren, AV.kpL_eq, AV.renL_eq, List.map_map]
  congr 1

/-- A call with several results, data without slices. -/
theorem CallVC.tflat {f : FuncId} {as args : List AV} {p : Prop} {l : List Nat} {R : List D → Prop} {K : AV → AS → Prop} (hc : TCalls P f args R) (hv : viewL P σ.hp as = some (p, args, l)) (hp : p)
    (hf : ∀ r, R r → r.all D.flat = true) (hk : ∀ r, R r → K (.tp (r.map .d)) σ) : CallVC P f as σ K := by
  refine .view hv hp 100 false (hc.mono fun x _ res ⟨⟨r, h1, h3⟩, h2⟩ => ?_) (Nat.le_refl _)
  subst h1; subst h2
  refine ⟨⟨by simp, Nat.le_refl _, by simp, .inr (.inr ⟨?_, rfl⟩)⟩, ?_⟩
  · have := hf r h3
    simp only [AV.flatR, List.all_map, List.all_eq_true] at this ⊢
    intro y hy
    exact this y hy
  · rw [back_tpd, after_none]; exact hk r h3
/-- A call with several results, which looks at no block of the frame's own. -/
theorem CallVC.tdat {f : FuncId} {as args : List AV} {p : Prop} {R : List D → Prop} {K : AV → AS → Prop} (hc : TCalls P f args R) (hv : viewL P σ.hp as = some (p, args, [])) (hp : p)
    (hk : ∀ r, R r → K (.tp (r.map .d)) σ) : CallVC P f as σ K := by
  refine .view hv hp 100 false (hc.mono fun x _ res ⟨⟨r, h1, h3⟩, h2⟩ => ?_) (Nat.le_refl _)
  subst h1; subst h2
  refine ⟨⟨by simp, Nat.le_refl _, by simp, .inr (.inl rfl)⟩, ?_⟩
  rw [back_tpd, after_none]; exact hk r h3

theorem after_drop (base : Nat) (g : Nat → Nat) (l : List Nat) : σ.after g base true l [] [] [] = σ.withHp (σ.hp.dropL l) := by
  have h1 : (fun id => inNew base ([] : List (Nat × Blk)).length id || σ.used id) = σ.used := by
    funext id
    have : inNew base ([] : List (Nat × Blk)).length id = false := by simp [inNew]
    rw [this, Bool.false_or]
  simp only [AS.after, h1]
  rfl
/-- Calls that look at blocks of the frame's own, which it then gives up. -/
theorem CallVC.ddrop {f : FuncId} {as args : List AV} {p : Prop} {l : List Nat} {R : D → Prop} {K : AV → AS → Prop} (hc : DCalls P f args R) (hv : viewL P σ.hp as = some (p, args, l)) (hp : p)
    (hk : ∀ r, R r → K (.d r) (σ.withHp (σ.hp.dropL l))) : CallVC P f as σ K := by
  refine .view hv hp 100 true (hc.mono fun x _ res ⟨⟨r, h1, h3⟩, h2⟩ => ?_) (Nat.le_refl _)
  subst h1; subst h2
  refine ⟨⟨by simp, Nat.le_refl _, by simp, .inl rfl⟩, ?_⟩
  rw [back_d, after_drop]; exact hk r h3
theorem CallVC.tdrop {f : FuncId} {as args : List AV} {p : Prop} {l : List Nat} {R : List D → Prop} {K : AV → AS → Prop} (hc : TCalls P f args R) (hv : viewL P σ.hp as = some (p, args, l)) (hp : p)
    (hk : ∀ r, R r → K (.tp (r.map .d)) (σ.withHp (σ.hp.dropL l))) : CallVC P f as σ K := by
  refine .view hv hp 100 true (hc.mono fun x _ res ⟨⟨r, h1, h3⟩, h2⟩ => ?_) (Nat.le_refl _)
  subst h1; subst h2
  refine ⟨⟨by simp, Nat.le_refl _, by simp, .inl rfl⟩, ?_⟩
  rw [back_tpd, after_drop]; exact hk r h3

/-! ### One block that is handed over, by a pointer, as the first argument -/

/-- What a function that is handed a block of data answers: a datum, or several; and what the block holds then. -/
inductive RV where
  | one (y : D)
  | many (ys : List D)
def RV.av : RV → AV
  | .one y => .d y
  | .many ys => .tp (ys.map .d)

def RCalls (P : Program) (f : FuncId) (args : List AV) (b : List D) (R : RV → List D → Prop) : Prop :=
  ACalls P f (.ptr 1 0 :: args) [(1, .bx (b.map .d))] fun x bs res => (∃ r b', x = r.av ∧ bs = [.bx (b'.map .d)] ∧ R r b') ∧ res = []

theorem RCalls.mono {f : FuncId} {args : List AV} {b : List D} {R R' : RV → List D → Prop} (h : RCalls P f args b R) (hk : ∀ r b', R r b' → R' r b') : RCalls P f args b R' :=
  ACalls.mono h fun x bs res ⟨⟨r, b', h1, h2, h3⟩, h4⟩ => ⟨⟨r, b', h1, h2, hk r b' h3⟩, h4⟩

theorem kp_ds (p : Nat → Bool) (ds : List D) : AV.kpL p (ds.map .d) = ds.map .d := by
  rw [AV.kpL_eq, List.map_map]; rfl
theorem ren_ds (g : Nat → Nat) (ds : List D) : AV.renL g (ds.map .d) = ds.map .d := by
  rw [AV.renL_eq, List.map_map]; rfl
theorem RV.kp (p : Nat → Bool) (r : RV) : r.av.kp p = r.av := by
  cases r with
  | one y => rfl
  | many ys => simp only [RV.av, AV.kp, kp_ds]
theorem RV.ren (g : Nat → Nat) (r : RV) : r.av.ren g = r.av := by
  cases r with
  | one y => rfl
  | many ys => simp only [RV.av, AV.ren, ren_ds]

/-- The result as data: blocks that lie in it are given up. -/
def toRV (hp : HP) : AV → Option (Prop × RV × List Nat)
  | .tp xs => (Fw.toDA hp xs).map fun p => (p.1, .many p.2.1, p.2.2)
  | x => (Fw.toD hp x).map fun p => (p.1, .one p.2.1, p.2.2)

theorem toRV_rep {c : Ctx} {ρ : Nat → Value} {w : World} {vs : List Value} {xs : List AV} {loc : Nat → Option (Nat × Nat)} (h : RepL P c σ ρ w vs xs loc) {v : Value} {x : AV} {p : Prop} {y : RV} {l : List Nat} (hx : toRV σ.hp x = some (p, y, l)) (hp : p)
    (hv : RepA P w (okOf c w σ.hp loc) loc v x) : RepA P w (okOf c w (σ.hp.dropL l) loc) loc v y.av := by
  cases x with
  | tp xs =>
    simp only [toRV, Option.map_eq_some_iff] at hx
    obtain ⟨⟨p', ys, l'⟩, hd, he⟩ := hx
    simp only [Prod.mk.injEq] at he; obtain ⟨rfl, rfl, rfl⟩ := he
    obtain ⟨h1, h2⟩ := toDA_rep h hd hp (l' := l') fun i hi => hi
    cases hv with | tp hs hc =>
    refine .tp (by simp [hs, h1]) fun i u y hu hy => ?_
    simp only [List.getElem?_map, Option.map_eq_some_iff] at hy
    obtain ⟨y', hy', rfl⟩ := hy
    have hi : i < xs.length := by have := (List.getElem?_eq_some_iff.1 hy').1; omega
    exact .d (h2 i u xs[i] y' (List.getElem?_eq_getElem hi) hy' (hc i u xs[i] hu (List.getElem?_eq_getElem hi)))
  | _ =>
    simp only [toRV, Option.map_eq_some_iff] at hx
    obtain ⟨⟨p', y', l'⟩, hd, he⟩ := hx
    simp only [Prod.mk.injEq] at he; obtain ⟨rfl, rfl, rfl⟩ := he
    exact .d (toD_rep h hd hp hv fun i hi => hi)

def retRF (p : Prop) (q : Option (Prop × RV × List Nat)) (hp : HP) (R : RV → List D → Prop) : Prop :=
  match q with
  | some (q, y, l) => p ∧ q ∧ ∃ b', (hp.dropL l).heap 1 = some (.bx (b'.map .d)) ∧ R y b'
  | none => False
def retRP (σ : AS) (q : PA) (R : RV → List D → Prop) : Prop := retRF q.1 (toRV σ.hp q.2) σ.hp R
def retR (P : Program) (rs : List ResultVar) (R : RV → List D → Prop) : Ex → AS → Prop
  | .exit _, _ => False
  | _, σ => retRP σ (resAV P σ rs) R
theorem retR_r {rs : List ResultVar} {R : RV → List D → Prop} : retR P rs R .ret σ = retRP σ (resAV P σ rs) R := rfl
theorem retR_n {rs : List ResultVar} {R : RV → List D → Prop} : retR P rs R .normal σ = retRP σ (resAV P σ rs) R := rfl
theorem retRP_is {p : Prop} {x : AV} {R : RV → List D → Prop} : retRP σ (p, x) R = retRF p (toRV σ.hp x) σ.hp R := rfl
theorem retRF_some {p q : Prop} {y : RV} {l : List Nat} {hp : HP} {R : RV → List D → Prop} : retRF p (some (q, y, l)) hp R = (p ∧ q ∧ ∃ b', (hp.dropL l).heap 1 = some (.bx (b'.map .d)) ∧ R y b') := rfl

theorem RetVC.toR {x : AV} {p : Prop} {y : RV} {l : List Nat} {b' : List D} {K : AV → List Blk → List (Nat × Blk) → Prop} (hd : toRV σ.hp x = some (p, y, l)) (hp : p) (hb : (σ.hp.dropL l).heap 1 = some (.bx (b'.map .d)))
    (hk : K y.av [.bx (b'.map .d)] []) : RetVC P [1] σ x K :=
  ⟨y.av, [.bx (b'.map .d)], [], hk, rfl, by simp, fun c ρ w v loc h => by
    have hv := toRV_rep h hd hp h.val1
    refine ((RepL.dropL l h).setVal1 hv).cut [(1, .bx (b'.map .d))] (fun id b hib => ?_) (by simp [RV.kp])
    simp only [lookH] at hib
    split at hib
    · rename_i he; subst he; simp only [Option.some.injEq] at hib; subst hib
      exact ⟨hb, by simp [Blk.kp, kp_ds]⟩
    · cases hib⟩

theorem rcalls_intro {f : FuncId} {fn : Func} {code : Code} {n : Nat} {rs : List ResultVar} (hm : P.follows .mixedOrders = true) (hf : P.funcs[f]? = some fn) (hb : fn.body = some code) (hn : fn.ntmps = n) (hr : fn.results.toList = rs)
    (fz : List Nat) (hst : slotsOk n code = true) {args : List AV} {b : List D} {R : RV → List D → Prop}
    (hargs : args.length + 1 ≤ n) (hv : VC P fz code (entryS (.ptr 1 0 :: args) [(1, .bx (b.map .d))]) (retR P rs R)) : RCalls P f args b R := by
  subst hn; subst hr
  refine acalls_of_vcQ hm hf hb fz hst (by simpa using hargs) (Q := retR P fn.results.toList R) (fun ex σ h => ?_) hv
  have key : retRP σ (resAV P σ fn.results.toList) R → (resAV P σ fn.results.toList).1 ∧ RetVC P [1] σ (resAV P σ fn.results.toList).2 fun x bs res => (∃ r b', x = r.av ∧ bs = [.bx (b'.map .d)] ∧ R r b') ∧ res = [] := fun h => by
    generalize resAV P σ fn.results.toList = q at h ⊢
    obtain ⟨p, x⟩ := q
    unfold retRP retRF at h
    split at h
    · rename_i q y l e
      obtain ⟨h1, h2, b', h3, h4⟩ := h
      exact ⟨h1, .toR e h2 h3 ⟨⟨_, _, rfl, rfl, h4⟩, rfl⟩⟩
    · exact h.elim
  cases ex with
  | exit i => exact h
  | normal => exact key h
  | ret => exact key h

/-- The block 'id' with other data. -/
theorem after_lend (id : Nat) (b' : List D) (hid : id ≠ 0) : σ.after (fun q => if q = 1 then id else 0) 100 false [] [1] [.bx (b'.map .d)] [] = σ.withHp (σ.hp.set id (.bx (b'.map .d))) := by
  have h1 : (fun i => inNew 100 ([] : List (Nat × Blk)).length i || σ.used i) = σ.used := by
    funext i
    have : inNew 100 ([] : List (Nat × Blk)).length i = false := by simp [inNew]
    rw [this, Bool.false_or]
  simp only [AS.after, h1, AS.withHp]
  congr 1
  simp only [setL, HP.set, Bool.false_eq_true, if_false]
  congr 1
  funext i
  simp only [resE, List.zip_cons_cons, List.zip_nil_right, List.append_nil, List.map_cons, List.map_nil, lookH, renOf, upd, Blk.kp, Blk.ren, kp_ds, ren_ds]
  by_cases hi : i = id
  · simp [hi]
  · simp [hi]

/-- A call that is handed the block 'id'; the other arguments hold no block of the frame's own. -/
theorem CallVC.lend {f : FuncId} {id : Nat} {as args : List AV} {p : Prop} {b : List D} {R : RV → List D → Prop} {K : AV → AS → Prop} (hc : RCalls P f args b R) (hh : σ.hp.heap id = some (.bx (b.map .d))) (hid : id ≠ 0)
    (hv : viewL P σ.hp as = some (p, args, [])) (hp : p) (hk : ∀ r b', R r b' → K r.av (σ.withHp (σ.hp.set id (.bx (b'.map .d))))) : CallVC P f (.ptr id 0 :: as) σ K := by
  intro c ρ w vals loc hr
  have hvals : vals.length = as.length + 1 := by rw [hr.len]; rfl
  obtain ⟨v0, vr, rfl⟩ : ∃ v0 vr, vals = v0 :: vr := by
    cases vals with
    | nil => simp at hvals
    | cons a b => exact ⟨a, b, rfl⟩
  let g : Nat → Nat := fun q => if q = 1 then id else 0
  obtain ⟨v1, v2⟩ := viewL_rep hr (fun q => loc (g q)) hv hp (l' := []) fun i hi => hi
  refine (hr.call (args := .ptr 1 0 :: args) (hs := [(1, .bx (b.map .d))]) [] g 100 (Nat.le_refl _) (by simp [v1]) (fun i x y v ha hb hrr => ?_) (fun q hq => ?_) (fun q blk hq => ?_) (by simp) (fun q q' h1 h2 _ => ?_) hc).mono fun e w' ⟨v, x, bs, res, he, hkk, hbl, hfin⟩ => ?_
  · cases i with
    | zero =>
      simp only [List.getElem?_cons_zero, Option.some.injEq] at ha hb
      subst ha; subst hb
      cases hrr with | ptr hl => exact .ptr (by simpa [g] using hl)
    | succ i =>
      simp only [List.getElem?_cons_succ] at ha hb
      exact v2 i v y x hb ha hrr
  · simp only [List.map_cons, List.map_nil, List.mem_singleton] at hq
    simp [g, hq]
  · simp only [List.mem_singleton, Prod.mk.injEq] at hq
    obtain ⟨rfl, rfl⟩ := hq
    exact ⟨by omega, by simp, by simp [g, hh, Blk.ren, ren_ds]⟩
  · simp only [List.map_cons, List.map_nil, List.mem_singleton] at h1 h2
    rw [h1, h2]
  · obtain ⟨⟨r, b', rfl, rfl, hR⟩, rfl⟩ := hkk
    obtain ⟨loc', hr'⟩ := hfin ⟨by simp, by simp⟩ false (.inr (.inl rfl))
    refine ⟨v, _, _, loc', he, hk r b' hR, ?_⟩
    rw [← after_lend id b' hid]
    have : (r.av).back g 100 [1] [] = r.av := by simp only [AV.back, RV.kp, RV.ren]
    rw [← this]
    exact hr'

/-- A call whose result is a pointer to a new block, which then bears the number 'base'. -/
def NCalls (P : Program) (f : FuncId) (args : List AV) (R : List D → Prop) : Prop := ACalls P f args [] fun x _ res => ∃ id b, x = .ptr id 0 ∧ res = [(id, .bx (b.map .d))] ∧ 100 ≤ id ∧ R b
theorem CallVC.fresh {f : FuncId} {as args : List AV} {p : Prop} {R : List D → Prop} {K : AV → AS → Prop} (base : Nat) (hc : NCalls P f args R) (hb : 100 ≤ base) (hu : σ.used base = false) (hv : viewL P σ.hp as = some (p, args, [])) (hp : p)
    (hk : ∀ b, R b → K (.ptr base 0) (σ.new base (.bx (b.map .d)))) : CallVC P f as σ K := by
  refine .view hv hp base false (hc.mono fun x _ res ⟨id, b, h1, h2, hid, h3⟩ => ?_) hb
  subst h1; subst h2
  refine ⟨⟨by simp, hb, by simpa using hu, .inr (.inl rfl)⟩, ?_⟩
  have hid' : ¬ id < 100 := by omega
  have e1 : (AV.ptr id 0).back (fun _ => 0) base [] [(id, .bx (b.map .d))] = .ptr base 0 := by
    simp [AV.back, AV.kp, AV.ren, outE, renOf, posOf, hid']
  have e2 : σ.after (fun _ => 0) base false [] [] [] [(id, .bx (b.map .d))] = σ.new base (.bx (b.map .d)) := by
    simp only [AS.after, AS.new, setL, resE, Bool.false_eq_true, if_false]
    congr 1
    · simp only [HP.set]
      congr 1
      funext i
      simp only [List.zip_nil_left, List.nil_append, List.map_cons, List.map_nil, lookH, renOf, posOf, upd, Blk.kp, Blk.ren, kp_ds, ren_ds, hid', if_false, if_true, Nat.add_zero]
      by_cases hi : i = base
      · simp [hi]
      · simp [hi]
    · funext i
      simp only [inNew, upd, List.length_cons, List.length_nil]
      by_cases hi : i = base
      · simp [hi]
      · have : ¬ (base ≤ i ∧ i < base + (0 + 1)) := by omega
        simp [hi, this]
  rw [e1, e2]
  exact hk b h3

def retNP (σ : AS) (q : PA) (R : List D → Prop) : Prop := match q with
  | (p, .ptr id off) => p ∧ off = 0 ∧ 100 ≤ id ∧ ∃ b, σ.hp.heap id = some (.bx (b.map .d)) ∧ R b
  | _ => False
def retN (P : Program) (rs : List ResultVar) (R : List D → Prop) : Ex → AS → Prop
  | .exit _, _ => False
  | _, σ => retNP σ (resAV P σ rs) R
theorem retN_r {rs : List ResultVar} {R : List D → Prop} : retN P rs R .ret σ = retNP σ (resAV P σ rs) R := rfl
theorem retN_n {rs : List ResultVar} {R : List D → Prop} : retN P rs R .normal σ = retNP σ (resAV P σ rs) R := rfl
theorem retNP_is {p : Prop} {id off : Nat} {R : List D → Prop} : retNP σ (p, .ptr id off) R = (p ∧ off = 0 ∧ 100 ≤ id ∧ ∃ b, σ.hp.heap id = some (.bx (b.map .d)) ∧ R b) := rfl

theorem ncalls_intro {f : FuncId} {fn : Func} {code : Code} {n : Nat} {rs : List ResultVar} (hm : P.follows .mixedOrders = true) (hf : P.funcs[f]? = some fn) (hb : fn.body = some code) (hn : fn.ntmps = n) (hr : fn.results.toList = rs)
    (fz : List Nat) (hst : slotsOk n code = true) {args : List AV} {R : List D → Prop}
    (hargs : args.length ≤ n) (hv : VC P fz code (entryS args []) (retN P rs R)) : NCalls P f args R := by
  subst hn; subst hr
  refine acalls_of_vcQ hm hf hb fz hst hargs (Q := retN P fn.results.toList R) (fun ex σ h => ?_) hv
  have key : retNP σ (resAV P σ fn.results.toList) R → (resAV P σ fn.results.toList).1 ∧ RetVC P [] σ (resAV P σ fn.results.toList).2 fun x _ res => ∃ id b, x = .ptr id 0 ∧ res = [(id, .bx (b.map .d))] ∧ 100 ≤ id ∧ R b := fun h => by
    generalize resAV P σ fn.results.toList = q at h ⊢
    unfold retNP at h
    split at h
    · rename_i p id off
      obtain ⟨h1, rfl, h2, b, h3, h4⟩ := h
      refine ⟨h1, .keep [] [(id, .bx (b.map .d))] rfl (by simp [h2]) (fun q hq => ?_) ?_ ⟨id, b, rfl, rfl, h2, h4⟩⟩
      · simp only [List.map_nil, List.zip_nil_left, List.nil_append, List.mem_singleton] at hq
        subst hq
        exact ⟨h3, by simp [Blk.kp, kp_ds]⟩
      · simp [AV.kp, keepP, lookH, Nat.not_lt.2 h2]
    · exact h.elim
  cases ex with
  | exit i => exact h
  | normal => exact key h
  | ret => exact key h

/-- A call whose result is a new slice, to be written on. -/
def SCalls (P : Program) (f : FuncId) (args : List AV) (R : Nat → List D → Prop) : Prop := ACalls P f args [] fun x _ res => ∃ id sz xs, x = .sl sz id 0 xs.length ∧ res = [(id, .ar sz xs)] ∧ 100 ≤ id ∧ R sz xs
theorem CallVC.freshS {f : FuncId} {as args : List AV} {p : Prop} {l : List Nat} {R : Nat → List D → Prop} {K : AV → AS → Prop} (base : Nat) (hc : SCalls P f args R) (hb : 100 ≤ base) (hu : σ.used base = false) (hv : viewL P σ.hp as = some (p, args, l)) (hp : p)
    (hk : ∀ sz xs, R sz xs → K (.sl sz base 0 xs.length) ((σ.withHp (σ.hp.dropL l)).new base (.ar sz xs))) : CallVC P f as σ K := by
  refine .view hv hp base true (hc.mono fun x _ res ⟨id, sz, xs, h1, h2, hid, h3⟩ => ?_) hb
  subst h1; subst h2
  refine ⟨⟨by simp, hb, by simpa using hu, .inl rfl⟩, ?_⟩
  have hid' : ¬ id < 100 := by omega
  have e1 : (AV.sl sz id 0 xs.length).back (fun _ => 0) base [] [(id, .ar sz xs)] = .sl sz base 0 xs.length := by
    simp [AV.back, AV.kp, AV.ren, outE, renOf, posOf, hid']
  have e2 : σ.after (fun _ => 0) base true l [] [] [(id, .ar sz xs)] = (σ.withHp (σ.hp.dropL l)).new base (.ar sz xs) := by
    simp only [AS.after, AS.new, AS.withHp, setL, resE, if_true]
    congr 1
    · simp only [HP.set]
      congr 1
      funext i
      simp only [List.zip_nil_left, List.nil_append, List.map_cons, List.map_nil, lookH, renOf, posOf, upd, Blk.kp, Blk.ren, hid', if_false, if_true, Nat.add_zero]
      by_cases hi : i = base
      · simp [hi]
      · simp [hi]
    · funext i
      simp only [inNew, upd, List.length_cons, List.length_nil]
      by_cases hi : i = base
      · simp [hi]
      · have : ¬ (base ≤ i ∧ i < base + (0 + 1)) := by omega
        simp [hi, this]
  rw [e1, e2]
  exact hk sz xs h3

def selS (p : Prop) (sz id off len : Nat) (R : Nat → List D → Prop) : Option Blk → Prop
  | some (.ar sz' xs) => p ∧ off = 0 ∧ 100 ≤ id ∧ sz = sz' ∧ len = xs.length ∧ R sz xs
  | _ => False
def retSP (σ : AS) (q : PA) (R : Nat → List D → Prop) : Prop := match q with
  | (p, .sl sz id off len) => selS p sz id off len R (σ.hp.heap id)
  | _ => False
def retS (P : Program) (rs : List ResultVar) (R : Nat → List D → Prop) : Ex → AS → Prop
  | .exit _, _ => False
  | _, σ => retSP σ (resAV P σ rs) R
theorem retS_r {rs : List ResultVar} {R : Nat → List D → Prop} : retS P rs R .ret σ = retSP σ (resAV P σ rs) R := rfl
theorem retS_n {rs : List ResultVar} {R : Nat → List D → Prop} : retS P rs R .normal σ = retSP σ (resAV P σ rs) R := rfl
theorem retSP_is {p : Prop} {sz id off len : Nat} {R : Nat → List D → Prop} : retSP σ (p, .sl sz id off len) R = selS p sz id off len R (σ.hp.heap id) := rfl
theorem selS_some {p : Prop} {sz id off len sz' : Nat} {xs : List D} {R : Nat → List D → Prop} : selS p sz id off len R (some (.ar sz' xs)) = (p ∧ off = 0 ∧ 100 ≤ id ∧ sz = sz' ∧ len = xs.length ∧ R sz xs) := rfl

theorem scalls_intro {f : FuncId} {fn : Func} {code : Code} {n : Nat} {rs : List ResultVar} (hm : P.follows .mixedOrders = true) (hf : P.funcs[f]? = some fn) (hb : fn.body = some code) (hn : fn.ntmps = n) (hr : fn.results.toList = rs)
    (fz : List Nat) (hst : slotsOk n code = true) {args : List AV} {R : Nat → List D → Prop}
    (hargs : args.length ≤ n) (hv : VC P fz code (entryS args []) (retS P rs R)) : SCalls P f args R := by
  subst hn; subst hr
  refine acalls_of_vcQ hm hf hb fz hst hargs (Q := retS P fn.results.toList R) (fun ex σ h => ?_) hv
  have key : retSP σ (resAV P σ fn.results.toList) R → (resAV P σ fn.results.toList).1 ∧ RetVC P [] σ (resAV P σ fn.results.toList).2 fun x _ res => ∃ id sz xs, x = .sl sz id 0 xs.length ∧ res = [(id, .ar sz xs)] ∧ 100 ≤ id ∧ R sz xs := fun h => by
    generalize resAV P σ fn.results.toList = q at h ⊢
    unfold retSP at h
    split at h
    · rename_i p sz id off len
      unfold selS at h
      split at h
      · rename_i sz' xs hh
        obtain ⟨h1, rfl, h2, rfl, rfl, h4⟩ := h
        refine ⟨h1, .keep [] [(id, .ar sz xs)] rfl (by simp [h2]) (fun q hq => ?_) ?_ ⟨id, sz, xs, rfl, rfl, h2, h4⟩⟩
        · simp only [List.map_nil, List.zip_nil_left, List.nil_append, List.mem_singleton] at hq
          subst hq
          exact ⟨hh, by simp [Blk.kp]⟩
        · simp [AV.kp, keepP, lookH, Nat.not_lt.2 h2]
      · exact h.elim
    · exact h.elim
  cases ex with
  | exit i => exact h
  | normal => exact key h
  | ret => exact key h

end

attribute [simp] retS_r retS_n retSP_is selS_some retN_r retN_n retNP_is retT_r retT_n retTP_is retTF_some retR_r retR_n retRP_is retRF_some toRV RV.av fExtract

end Go.Fw
