/- Calls, returns and loops: the rules that a proof uses. -/
import Derived.Test.YtfiipgebdcbknaaFwQ
set_option linter.unusedSimpArgs false
set_option linter.unusedVariables false
namespace Go.Fw
open Go

/-! ### What a function hands back -/

def keepP (E : List (Nat × Blk)) (id : Nat) : Bool := !(decide (id < 100) || (lookH E id).isSome)

section
variable {P : Program} {c : Ctx} {σ : AS} {ρ : Nat → Value} {w : World} {loc : Nat → Option (Nat × Nat)}

theorem RepL.cut {vs : List Value} {xs : List AV} (h : RepL P c σ ρ w vs xs loc) (E : List (Nat × Blk)) (hE : ∀ id b, lookH E id = some b → σ.hp.heap id = some b ∧ b.kp (keepP E) = b) (hx : ∀ x ∈ xs, x.kp (keepP E) = x) :
    ∃ loc', RepL P c (st E) (fun _ => undef) w vs xs loc' := by
  let loc' : Nat → Option (Nat × Nat) := fun id => if keepP E id = true then none else loc id
  have hl : ∀ id, keepP E id = false → loc' id = loc id := fun id hid => by simp only [loc', hid, Bool.false_eq_true, if_false]
  have hl2 : ∀ id q, loc' id = some q → loc id = some q := fun id q hq => by
    simp only [loc'] at hq
    split at hq
    · cases hq
    · exact hq
  have hkp : ∀ id b, lookH E id = some b → keepP E id = false := fun id b hb => by simp [keepP, hb]
  have hlv : ∀ id, Live (hpOf E) id → Live σ.hp id ∧ keepP E id = false := fun id hl => by
    cases hb : lookH E id with
    | none => simp [Live, hpOf, hb] at hl
    | some b => exact ⟨by simp [Live, (hE id b hb).1], hkp id b hb⟩
  have hk : ∀ b, okOf c w σ.hp loc b → okOf c w (hpOf E) loc' b ∧ w.heap[b]? = w.heap[b]? := fun b ⟨h1, h2, h3⟩ =>
    ⟨⟨h1, h2, fun id δ hv he => h3 id δ (hlv id hv).1 (hl2 _ _ he)⟩, rfl⟩
  refine ⟨loc', fun s => .unk _, h.len, fun i v x hv hx' => ?_, fun id b hb => ?_, fun id id' b δ δ' l1 l2 e1 e2 => h.inj id id' b δ δ' (hlv id l1).1 (hlv id' l2).1 (hl2 _ _ e1) (hl2 _ _ e2),
    fun id b δ l1 e1 => h.own id b δ (hlv id l1).1 (hl2 _ _ e1), h.ext, fun id hid => ?_, fun id hid => ?_, fun id hid => ?_⟩
  · have := (h.vals i v x hv hx').mono_kp hk (Shapes.refl w) (keepP E) hl
    rwa [hx x (List.mem_of_getElem? hx')] at this
  · obtain ⟨h1, h2⟩ := hE id b hb
    have := (h.heap id b h1).mono_kp hk (Shapes.refl w) (keepP E) (hkp id b hb) hl fun _ _ _ => rfl
    rwa [h2] at this
  · rw [hl id (by simp [keepP, hid])]; exact h.fix id hid
  · have : keepP E id = true := by simpa [keepP, st] using hid
    simp only [loc', this, if_true]
  · have := (hlv id hid).2
    simp only [keepP, Bool.not_eq_false'] at this
    exact this

/-- The result is handed back as it is, with blocks of the state. -/
theorem RetVC.keep {keys : List Nat} {x : AV} {K : AV → List Blk → List (Nat × Blk) → Prop} (bs : List Blk) (res : List (Nat × Blk)) (hl : bs.length = keys.length) (hr : ∀ p ∈ res, 100 ≤ p.1)
    (hE : ∀ p ∈ keys.zip bs ++ res, σ.hp.heap p.1 = some p.2 ∧ p.2.kp (keepP (keys.zip bs ++ res)) = p.2) (hx : x.kp (keepP (keys.zip bs ++ res)) = x) (hk : K x bs res) : RetVC P keys σ x K :=
  ⟨x, bs, res, hk, hl, hr, fun _ _ _ _ _ h => h.cut _ (fun id b hb => hE (id, b) (lookH_some hb)) (by simpa using hx)⟩

/-- The result is a datum: nothing else is handed back. -/
theorem RetVC.d {y : D} {K : AV → List Blk → List (Nat × Blk) → Prop} (hk : K (.d y) [] []) : RetVC P [] σ (.d y) K :=
  .keep [] [] rfl (by simp) (by simp) rfl hk

/-- The result is handed back as a datum. -/
theorem RetVC.toD {x : AV} {p : Prop} {y : D} {l : List Nat} {K : AV → List Blk → List (Nat × Blk) → Prop} (hd : Fw.toD σ.hp x = some (p, y, l)) (hp : p) (hk : K (.d y) [] []) : RetVC P [] σ x K :=
  ⟨.d y, [], [], hk, rfl, by simp, fun c ρ w v loc h => by
    have hv := toD_rep h hd hp h.val1 (l' := l) fun i hi => hi
    exact ((RepL.dropL l h).setVal1 (.d hv)).cut [] (by simp [lookH]) (by simp [AV.kp])⟩

/-- A nil slice is handed back as an empty one. -/
theorem RetVC.nl {K : AV → List Blk → List (Nat × Blk) → Prop} (sz : Nat) (hu : σ.used 100 = false) (hk : K (.sl sz 100 0 0) [] [(100, .ar sz [])]) : RetVC P [] σ .nl K :=
  ⟨.sl sz 100 0 0, [], [(100, .ar sz [])], hk, rfl, by simp, fun c ρ w v loc h => by
    have hf : σ.free 100 := ⟨Nat.le_refl _, hu⟩
    have h2 := h.adopt 100 hf sz
    cases h.val1
    exact (h2.setVal1 (.sl0 none sz 100 0)).cut [(100, .ar sz [])] (fun id b hb => by
      simp only [lookH] at hb
      split at hb
      · rename_i he; subst he; simp only [Option.some.injEq] at hb; subst hb
        exact ⟨by simp [AS.new, HP.set, upd], rfl⟩
      · cases hb) (by simp [AV.kp, keepP, lookH])⟩

/-! ### Calls -/

/-- A cell as it is looked at by a callee. -/
def view1 (hp : HP) : AV → Option (Prop × AV × List Nat)
  | .clo S => some (True, .clo S, [])
  | x => (toD1 hp x).map fun p => (p.1, .d p.2.1, p.2.2)
def views1 (hp : HP) : List AV → Option (Prop × List AV × List Nat)
  | [] => some (True, [], [])
  | x :: r => match view1 hp x, views1 hp r with
    | some (p, y, l), some (q, ys, l') => some (p ∧ q, y :: ys, l ++ l')
    | _, _ => none
/-- An argument as it is looked at by a callee. -/
def viewB (hp : HP) : AV → Option (Prop × AV × List Nat)
  | .clo S => some (True, .clo S, [])
  | .dp cs => (views1 hp cs).map fun p => (p.1, .dp p.2.1, p.2.2)
  | .ptr id off => match hp.heap id with
    | some (.bx cs) => (views1 hp (cs.drop off)).map fun p => (p.1, .dp p.2.1, id :: p.2.2)
    | _ => none
  | x => (toD hp x).map fun p => (p.1, .d p.2.1, p.2.2)
def viewBs (hp : HP) : List AV → Option (Prop × List AV × List Nat)
  | [] => some (True, [], [])
  | x :: r => match viewB hp x, viewBs hp r with
    | some (p, y, l), some (q, ys, l') => some (p ∧ q, y :: ys, l ++ l')
    | _, _ => none
def AV.vw1 : AV → Bool
  | .d _ => true
  | .clo _ => true
  | _ => false
def AV.vw : AV → Bool
  | .dp cs => cs.all AV.vw1
  | x => x.vw1
/-- What a function value answers whose function, and what it holds, are known. -/
def cloS (P : Program) (g : FuncId) (first caps : List AV) (ds : List D) (K : D → Prop) : Prop :=
  ∃ R : D → Prop, ACalls P g (first ++ ds.map .d ++ caps) [] (fun x _ res => (∃ r, x = .d r ∧ R r) ∧ res = []) ∧ (∀ r, R r → r.flat = true) ∧ ∀ r, R r → K r
def viewA (P : Program) (hp : HP) : AV → Option (Prop × AV × List Nat)
  | .fv (.func g) first caps => match viewBs hp first, viewBs hp caps with
    | some (p, xs, l), some (q, ys, l') => some ((callable P g = true ∧ xs.all AV.vw = true ∧ ys.all AV.vw = true) ∧ p ∧ q, .clo (cloS P g xs ys), l ++ l')
    | _, _ => none
  | x => viewB hp x
def viewL (P : Program) (hp : HP) : List AV → Option (Prop × List AV × List Nat)
  | [] => some (True, [], [])
  | x :: r => match viewA P hp x, viewL P hp r with
    | some (p, y, l), some (q, ys, l') => some (p ∧ q, y :: ys, l ++ l')
    | _, _ => none

theorem RepA.mono_vw1 {w' : World} {ok ok' : Nat → Prop} {loc' : Nat → Option (Nat × Nat)} {v : Value} {x : AV} (h : RepA P w ok loc v x) (hx : x.vw1 = true) (hk : ∀ b, ok b → ok' b ∧ w'.heap[b]? = w.heap[b]?) : RepA P w' ok' loc' v x := by
  cases h with
  | d h => exact .d (h.mono hk)
  | clo h => exact .clo (h.mono hk)
  | _ => exact absurd hx (by simp [AV.vw1])
theorem RepA.mono_vw {w' : World} {ok ok' : Nat → Prop} {loc' : Nat → Option (Nat × Nat)} {v : Value} {x : AV} (h : RepA P w ok loc v x) (hx : x.vw = true) (hk : ∀ b, ok b → ok' b ∧ w'.heap[b]? = w.heap[b]?) : RepA P w' ok' loc' v x := by
  cases x with
  | dp cs =>
    simp only [AV.vw, List.all_eq_true] at hx
    cases h with | dp u h1 h2 h3 h4 =>
    exact .dp u (hk _ h1).1 ((hk _ h1).2.trans h2) h3 fun j y hy => (h4 j y hy).mono_vw1 (hx y (List.mem_of_getElem? hy)) hk
  | _ => exact h.mono_vw1 hx hk

theorem view1_rep {vs : List Value} {xs : List AV} (h : RepL P c σ ρ w vs xs loc) {x y : AV} {p : Prop} {l l' : List Nat} {v : Value} (hx : view1 σ.hp x = some (p, y, l)) (hp : p) (hs : ∀ i ∈ l, i ∈ l') (hv : RepA P w (okOf c w σ.hp loc) loc v x)
    (loc2 : Nat → Option (Nat × Nat)) : RepA P w (okOf c w (σ.hp.dropL l') loc) loc2 v y := by
  cases x with
  | clo S =>
    simp only [view1, Option.some.injEq, Prod.mk.injEq] at hx; obtain ⟨_, rfl, _⟩ := hx
    cases hv with | clo hv => exact .clo (hv.mono fun b hb => ⟨hb.dropL _ _, rfl⟩)
  | _ =>
    simp only [view1, Option.map_eq_some_iff] at hx
    obtain ⟨⟨p', y', l1⟩, hx, he⟩ := hx
    simp only [Prod.mk.injEq] at he; obtain ⟨rfl, rfl, rfl⟩ := he
    exact .d (toD1_rep h hx hp hv hs)

theorem views1_rep {vs : List Value} {xs : List AV} (h : RepL P c σ ρ w vs xs loc) (loc2 : Nat → Option (Nat × Nat)) : ∀ {cs ys : List AV} {p : Prop} {l l' : List Nat}, views1 σ.hp cs = some (p, ys, l) → p → (∀ i ∈ l, i ∈ l') →
    ys.length = cs.length ∧ ∀ (i : Nat) v x y, cs[i]? = some x → ys[i]? = some y → RepA P w (okOf c w σ.hp loc) loc v x → RepA P w (okOf c w (σ.hp.dropL l') loc) loc2 v y
  | [], ys, p, l, l', hx, hp, hs => by
    simp only [views1, Option.some.injEq, Prod.mk.injEq] at hx; obtain ⟨_, rfl, _⟩ := hx
    exact ⟨rfl, fun i v x y h1 => by simp at h1⟩
  | x :: r, ys, p, l, l', hx, hp, hs => by
    simp only [views1] at hx
    split at hx
    · rename_i p1 y l1 q ys' l2 e1 e2
      simp only [Option.some.injEq, Prod.mk.injEq] at hx; obtain ⟨rfl, rfl, rfl⟩ := hx
      obtain ⟨i1, i2⟩ := views1_rep h loc2 e2 hp.2 fun i hi => hs i (by simp [hi])
      refine ⟨by simp [i1], fun i v x' y' h1 h2 h3 => ?_⟩
      cases i with
      | zero => simp at h1 h2; subst h1; subst h2; exact view1_rep h e1 hp.1 (fun i hi => hs i (by simp [hi])) h3 loc2
      | succ i => simp at h1 h2; exact i2 i v x' y' h1 h2 h3
    · cases hx

theorem viewB_rep {vs : List Value} {xs : List AV} (h : RepL P c σ ρ w vs xs loc) {x y : AV} {p : Prop} {l l' : List Nat} {v : Value} (hx : viewB σ.hp x = some (p, y, l)) (hp : p) (hs : ∀ i ∈ l, i ∈ l') (hv : RepA P w (okOf c w σ.hp loc) loc v x)
    (loc2 : Nat → Option (Nat × Nat)) : RepA P w (okOf c w (σ.hp.dropL l') loc) loc2 v y := by
  cases x with
  | clo S =>
    simp only [viewB, Option.some.injEq, Prod.mk.injEq] at hx; obtain ⟨_, rfl, _⟩ := hx
    cases hv with | clo hv => exact .clo (hv.mono fun b hb => ⟨hb.dropL _ _, rfl⟩)
  | dp cs =>
    simp only [viewB, Option.map_eq_some_iff] at hx
    obtain ⟨⟨p', ys, l1⟩, hx, he⟩ := hx
    simp only [Prod.mk.injEq] at he; obtain ⟨rfl, rfl, rfl⟩ := he
    obtain ⟨i1, i2⟩ := views1_rep h loc2 hx hp hs
    cases hv with | dp u h1 h2 h3 h4 =>
    have get : ∀ (j : Nat) y, ys[j]? = some y → ∃ x, cs[j]? = some x := fun j y hy => by
      have : j < cs.length := by have := (List.getElem?_eq_some_iff.1 hy).1; omega
      exact ⟨cs[j], List.getElem?_eq_getElem this⟩
    refine .dp u (h1.dropL _ _) h2 (fun j y hy => ?_) (fun j y hy => ?_)
    · obtain ⟨x, hx⟩ := get j y hy; exact h3 j x hx
    · obtain ⟨x, hx⟩ := get j y hy; exact i2 j _ x y hx hy (h4 j x hx)
  | ptr id off =>
    simp only [viewB] at hx
    split at hx
    · rename_i cs hh
      simp only [Option.map_eq_some_iff] at hx
      obtain ⟨⟨p', ys, l1⟩, hx, he⟩ := hx
      simp only [Prod.mk.injEq] at he; obtain ⟨rfl, rfl, rfl⟩ := he
      obtain ⟨i1, i2⟩ := views1_rep h loc2 hx hp fun i hi => hs i (by simp [hi])
      cases hv with | @ptr _ _ b δ hl =>
      cases h.heap id _ hh with | @bx b' cur T _ hl' hb hz hcs =>
      rw [hl] at hl'; simp only [Option.some.injEq, Prod.mk.injEq] at hl'; obtain ⟨rfl, rfl⟩ := hl'
      have hlive : Live σ.hp id := by simp [Live, hh]
      have get : ∀ (j : Nat) y, ys[j]? = some y → ∃ x, (cs.drop off)[j]? = some x ∧ ∃ u, cur[off + j]? = some u ∧ RepA P w (okOf c w σ.hp loc) loc u x := fun j y hy => by
        have hj : j < (cs.drop off).length := by have := (List.getElem?_eq_some_iff.1 hy).1; omega
        have hj2 : off + j < cs.length := by simp at hj; omega
        refine ⟨(cs.drop off)[j], List.getElem?_eq_getElem hj, cur[off + j]'(by omega), Array.getElem?_eq_getElem _, ?_⟩
        exact hcs (off + j) _ _ (Array.getElem?_eq_getElem _) (by rw [List.getElem_drop]; exact List.getElem?_eq_getElem hj2)
      refine .dp (fun j => (cur[off + j]?).getD undef) (okOf.own (h := h) hlive hl (hs id (by simp))) hb (fun j y hy => ?_) (fun j y hy => ?_)
      · obtain ⟨x, hx, u, hu, hr⟩ := get j y hy
        rw [Nat.zero_add, hu]; rfl
      · obtain ⟨x, hx, u, hu, hr⟩ := get j y hy
        rw [hu]
        exact i2 j u x y hx hy hr
    · cases hx
  | _ =>
    simp only [viewB, Option.map_eq_some_iff] at hx
    obtain ⟨⟨p', y', l1⟩, hx, he⟩ := hx
    simp only [Prod.mk.injEq] at he; obtain ⟨rfl, rfl, rfl⟩ := he
    exact .d (toD_rep h hx hp hv hs)

theorem viewBs_rep {vs : List Value} {xs : List AV} (h : RepL P c σ ρ w vs xs loc) (loc2 : Nat → Option (Nat × Nat)) : ∀ {cs ys : List AV} {p : Prop} {l l' : List Nat}, viewBs σ.hp cs = some (p, ys, l) → p → (∀ i ∈ l, i ∈ l') →
    ys.length = cs.length ∧ ∀ (i : Nat) v x y, cs[i]? = some x → ys[i]? = some y → RepA P w (okOf c w σ.hp loc) loc v x → RepA P w (okOf c w (σ.hp.dropL l') loc) loc2 v y
  | [], ys, p, l, l', hx, hp, hs => by
    simp only [viewBs, Option.some.injEq, Prod.mk.injEq] at hx; obtain ⟨_, rfl, _⟩ := hx
    exact ⟨rfl, fun i v x y h1 => by simp at h1⟩
  | x :: r, ys, p, l, l', hx, hp, hs => by
    simp only [viewBs] at hx
    split at hx
    · rename_i p1 y l1 q ys' l2 e1 e2
      simp only [Option.some.injEq, Prod.mk.injEq] at hx; obtain ⟨rfl, rfl, rfl⟩ := hx
      obtain ⟨i1, i2⟩ := viewBs_rep h loc2 e2 hp.2 fun i hi => hs i (by simp [hi])
      refine ⟨by simp [i1], fun i v x' y' h1 h2 h3 => ?_⟩
      cases i with
      | zero => simp at h1 h2; subst h1; subst h2; exact viewB_rep h e1 hp.1 (fun i hi => hs i (by simp [hi])) h3 loc2
      | succ i => simp at h1 h2; exact i2 i v x' y' h1 h2 h3
    · cases hx

theorem viewA_rep {vs : List Value} {xs : List AV} (h : RepL P c σ ρ w vs xs loc) {x y : AV} {p : Prop} {l l' : List Nat} {v : Value} (hx : viewA P σ.hp x = some (p, y, l)) (hp : p) (hs : ∀ i ∈ l, i ∈ l') (hv : RepA P w (okOf c w σ.hp loc) loc v x)
    (loc2 : Nat → Option (Nat × Nat)) : RepA P w (okOf c w (σ.hp.dropL l') loc) loc2 v y := by
  unfold viewA at hx
  split at hx
  · rename_i g first caps
    split at hx
    · rename_i p1 fs l1 p2 cs l2 e1 e2
      simp only [Option.some.injEq, Prod.mk.injEq] at hx; obtain ⟨rfl, rfl, rfl⟩ := hx
      obtain ⟨⟨hcb, hw1, hw2⟩, q1, q2⟩ := hp
      obtain ⟨a1, a2⟩ := viewBs_rep h (fun _ => none) e1 q1 fun i hi => hs i (by simp [hi])
      obtain ⟨b1, b2⟩ := viewBs_rep h (fun _ => none) e2 q2 fun i hi => hs i (by simp [hi])
      cases hv with | @fv _ fst cap _ _ h1 h2 h3 h4 =>
      refine .clo ⟨g, fst, cap, rfl, hcb, fun w' ok' hk hlt ds vals K hlen hvals ⟨R, hcall, hflat, hRK⟩ => ?_⟩
      have geti : ∀ {α β : Type} {u : List α} {r : List β} {i : Nat} {z : α}, u.length = r.length → u[i]? = some z → ∃ t, r[i]? = some t := fun {α β u r i z} e hz => by
        have : i < r.length := by have := (List.getElem?_eq_some_iff.1 hz).1; omega
        exact ⟨r[i], List.getElem?_eq_getElem this⟩
      have f1 : ∀ (i : Nat) v y, fst[i]? = some v → fs[i]? = some y → RepA P w' ok' (fun _ => none) v y := fun i v y hv hy => by
        obtain ⟨x, hx⟩ := geti a1 hy
        exact (a2 i v x y hx hy (h3 i v x hv hx)).mono_vw (by rw [List.all_eq_true] at hw1; exact hw1 y (List.mem_of_getElem? hy)) hk
      have f2 : ∀ (i : Nat) v y, cap[i]? = some v → cs[i]? = some y → RepA P w' ok' (fun _ => none) v y := fun i v y hv hy => by
        obtain ⟨x, hx⟩ := geti b1 hy
        exact (b2 i v x y hx hy (h4 i v x hv hx)).mono_vw (by rw [List.all_eq_true] at hw2; exact hw2 y (List.mem_of_getElem? hy)) hk
      let c' : Ctx := ⟨w', ok', fun _ => False, fun _ => none, rfl, hlt, fun _ _ => id⟩
      have hok : ∀ b, ok' b → okOf c' w' (st []).hp (fun _ => none) b ∧ w'.heap[b]? = w'.heap[b]? := fun b hb => ⟨⟨hlt b hb, .inl hb, fun id δ _ he => by cases he⟩, rfl⟩
      have hargs : RepL P c' (st []) (fun _ => undef) w' (fst.toList ++ vals ++ cap.toList) (fs ++ ds.map .d ++ cs) (fun _ => none) := by
        refine ⟨fun s => .unk _, by simp only [List.length_append, List.length_map, Array.length_toList]; omega, fun i v x hv hx => ?_, fun id b hb => by simp [st, hpOf, lookH] at hb, fun id id' b δ δ' _ _ e1 _ => (by cases e1),
          fun id b δ _ e1 => (by cases e1), ⟨rfl, rfl, rfl, Nat.le_refl _, fun _ _ _ => rfl, Shapes.refl _⟩, fun _ _ => rfl, fun _ _ => rfl, fun id hl => by simp [Live, st, hpOf, lookH] at hl⟩
        rw [List.getElem?_append] at hv hx
        have e1 : (fst.toList ++ vals).length = (fs ++ ds.map AV.d).length := by simp only [List.length_append, List.length_map, Array.length_toList]; omega
        rw [e1] at hv
        split at hv
        · rename_i hi
          rw [if_pos hi] at hx
          rw [List.getElem?_append] at hv hx
          have e2 : fst.toList.length = fs.length := by simp only [Array.length_toList]; omega
          rw [e2] at hv
          split at hv
          · rename_i hi2
            rw [if_pos hi2] at hx
            exact (f1 i v x (by rwa [Array.getElem?_toList] at hv) hx).mono hok (Shapes.refl _)
          · rename_i hi2
            rw [if_neg hi2] at hx
            simp only [List.getElem?_map, Option.map_eq_some_iff] at hx
            obtain ⟨d, hd, rfl⟩ := hx
            exact .d ((hvals _ v d hv hd).mono hok)
        · rename_i hi
          rw [if_neg hi] at hx
          exact (f2 _ v x (by rwa [Array.getElem?_toList] at hv) hx).mono hok (Shapes.refl _)
      have := hcall c' _ hargs
      have he : (fst.toList ++ vals ++ cap.toList).toArray = fst ++ vals.toArray ++ cap := by apply Array.ext'; simp
      rw [he] at this
      refine this.mono fun e w2 ⟨v, x, bs, res, loc', he, ⟨⟨r, hr, hR⟩, hres⟩, _, _, hrep⟩ => ?_
      subst hr
      refine ⟨v, r, he, hflat r hR, ?_, hRK r hR, ⟨hrep.ext.os, hrep.ext.tape, hrep.ext.output, hrep.ext.size, fun b hb => hrep.ext.block b hb (by simp [c'])⟩⟩
      cases hrep.val1 with | d hx => exact hx.of_flat (hflat r hR)
    · cases hx
  · exact viewB_rep h hx hp hs hv loc2

theorem viewL_rep {vs : List Value} {xs : List AV} (h : RepL P c σ ρ w vs xs loc) (loc2 : Nat → Option (Nat × Nat)) : ∀ {cs ys : List AV} {p : Prop} {l l' : List Nat}, viewL P σ.hp cs = some (p, ys, l) → p → (∀ i ∈ l, i ∈ l') →
    ys.length = cs.length ∧ ∀ (i : Nat) v x y, cs[i]? = some x → ys[i]? = some y → RepA P w (okOf c w σ.hp loc) loc v x → RepA P w (okOf c w (σ.hp.dropL l') loc) loc2 v y
  | [], ys, p, l, l', hx, hp, hs => by
    simp only [viewL, Option.some.injEq, Prod.mk.injEq] at hx; obtain ⟨_, rfl, _⟩ := hx
    exact ⟨rfl, fun i v x y h1 => by simp at h1⟩
  | x :: r, ys, p, l, l', hx, hp, hs => by
    simp only [viewL] at hx
    split at hx
    · rename_i p1 y l1 q ys' l2 e1 e2
      simp only [Option.some.injEq, Prod.mk.injEq] at hx; obtain ⟨rfl, rfl, rfl⟩ := hx
      obtain ⟨i1, i2⟩ := viewL_rep h loc2 e2 hp.2 fun i hi => hs i (by simp [hi])
      refine ⟨by simp [i1], fun i v x' y' h1 h2 h3 => ?_⟩
      cases i with
      | zero => simp at h1 h2; subst h1; subst h2; exact viewA_rep h e1 hp.1 (fun i hi => hs i (by simp [hi])) h3 loc2
      | succ i => simp at h1 h2; exact i2 i v x' y' h1 h2 h3
    · cases hx

/-- After a call that was handed no blocks: new blocks get numbers from 'base' on. 'dr': what was looked at is given up. -/
def CallK (σ : AS) (base : Nat) (dr : Bool) (l : List Nat) (K : AV → AS → Prop) (x : AV) (res : List (Nat × Blk)) : Prop :=
  ((res.map Prod.fst).Nodup ∧ 100 ≤ base ∧ (∀ j, j < res.length → σ.used (base + j) = false) ∧ (dr = true ∨ l = [] ∨ (x.flatR = true ∧ res.all (fun p => p.2.flatR) = true))) ∧
    K (x.back (fun _ => 0) base [] res) (σ.after (fun _ => 0) base dr l [] [] res)

/-- A call whose arguments are only looked at. -/
theorem CallVC.view {f : FuncId} {as args : List AV} {p : Prop} {l : List Nat} {K : AV → AS → Prop} (hv : viewL P σ.hp as = some (p, args, l)) (hp : p) (base : Nat) (dr : Bool)
    (hc : ACalls P f args [] fun x _ res => CallK σ base dr l K x res) (h100 : 100 ≤ base) : CallVC P f as σ K := by
  intro c ρ w vals loc hr
  obtain ⟨v1, v2⟩ := viewL_rep hr (fun q => loc ((fun _ => 0) q)) hv hp (l' := l) fun i hi => hi
  refine (hr.call (K := fun x _ res => CallK σ base dr l K x res) l (fun _ => 0) base h100 v1 (fun i a b v ha hb hr' => v2 i v b a hb ha hr') (fun _ _ => rfl) (by simp) (by simp) (by simp) hc).mono fun e w' ⟨v, x, bs, res, he, hk, hbl, hfin⟩ => ?_
  obtain ⟨⟨k1, _, k2, k3⟩, hK⟩ := hk
  have hb0 : bs = [] := List.length_eq_zero_iff.1 hbl
  subst hb0
  obtain ⟨loc', hr'⟩ := hfin ⟨k1, k2⟩ dr (by
    rcases k3 with k3 | k3 | ⟨k3, k4⟩
    · exact .inl k3
    · exact .inr (.inl k3)
    · exact .inr (.inr ⟨k3, rfl, k4⟩))
  exact ⟨v, _, _, loc', he, hK, hr'⟩

theorem back_d (y : D) (g : Nat → Nat) (base : Nat) (keys : List Nat) (res : List (Nat × Blk)) : (AV.d y).back g base keys res = .d y := rfl

theorem after_none (base : Nat) (g : Nat → Nat) (l : List Nat) : σ.after g base false l [] [] [] = σ := by
  have h1 : (fun id => inNew base ([] : List (Nat × Blk)).length id || σ.used id) = σ.used := by
    funext id
    have : inNew base ([] : List (Nat × Blk)).length id = false := by simp [inNew]
    rw [this, Bool.false_or]
  simp only [AS.after, h1]
  cases σ; rfl

/-- A call whose value is known, a datum without slices: the state stays. -/
theorem CallVC.flat {f : FuncId} {as args : List AV} {p : Prop} {l : List Nat} {r : D} {K : AV → AS → Prop} (hv : viewL P σ.hp as = some (p, args, l)) (hp : p)
    (hc : ACalls P f args [] fun x _ res => x = .d r ∧ res = []) (hr : r.flat = true) (hk : K (.d r) σ) : CallVC P f as σ K := by
  refine .view hv hp 100 false (hc.mono fun x _ res ⟨h1, h2⟩ => ?_) (Nat.le_refl _)
  subst h1; subst h2
  refine ⟨⟨by simp, Nat.le_refl _, by simp, .inr (.inr ⟨hr, rfl⟩)⟩, ?_⟩
  rw [back_d, after_none]; exact hk

/-- A call whose value is a datum, and which looks at no block of the frame's own. -/
theorem CallVC.data {f : FuncId} {as args : List AV} {p : Prop} {K : AV → AS → Prop} (hv : viewL P σ.hp as = some (p, args, [])) (hp : p)
    {R : D → Prop} (hc : ACalls P f args [] fun x _ res => (∃ r, x = .d r ∧ R r) ∧ res = []) (hk : ∀ r, R r → K (.d r) σ) : CallVC P f as σ K := by
  refine .view hv hp 100 false (hc.mono fun x _ res ⟨⟨r, h1, h3⟩, h2⟩ => ?_) (Nat.le_refl _)
  subst h1; subst h2
  refine ⟨⟨by simp, Nat.le_refl _, by simp, .inr (.inl rfl)⟩, ?_⟩
  rw [back_d, after_none]; exact hk r h3

/-- A call whose value is one of several data without slices. -/
theorem CallVC.flats {f : FuncId} {as args : List AV} {p : Prop} {l : List Nat} {K : AV → AS → Prop} (hv : viewL P σ.hp as = some (p, args, l)) (hp : p)
    {R : D → Prop} (hc : ACalls P f args [] fun x _ res => (∃ r, x = .d r ∧ r.flat = true ∧ R r) ∧ res = []) (hk : ∀ r, R r → K (.d r) σ) : CallVC P f as σ K := by
  refine .view hv hp 100 false (hc.mono fun x _ res ⟨⟨r, h1, h4, h3⟩, h2⟩ => ?_) (Nat.le_refl _)
  subst h1; subst h2
  refine ⟨⟨by simp, Nat.le_refl _, by simp, .inr (.inr ⟨h4, rfl⟩)⟩, ?_⟩
  rw [back_d, after_none]; exact hk r h3

/-! ### Loops: weaker states -/

/-- A state written out. -/
def mkS (slots : List (Nat × AV)) (heap : List (Nat × Blk)) (used : List Nat) : AS :=
  ⟨fun s => match slots.lookup s with | some x => x | none => .unk, hpOf heap, fun id => decide (id < 100) || used.contains id⟩

def outU (used : List Nat) (id : Nat) : Bool := !(decide (id < 100) || used.contains id)

def slotsLe (σ : AS) (used : List Nat) : List (Nat × AV) → Prop
  | [] => True
  | (s, x) :: r => (σ.sl s = x ∧ x.kp (outU used) = x) ∧ slotsLe σ used r
def heapLe (σ : AS) (used : List Nat) : List (Nat × Blk) → Prop
  | [] => True
  | (id, b) :: r => (σ.hp.heap id = some b ∧ b.kp (outU used) = b ∧ (id < 100 ∨ used.contains id = true)) ∧ heapLe σ used r

theorem slotsLe_get {used : List Nat} : ∀ {l : List (Nat × AV)}, slotsLe σ used l → ∀ s x, l.lookup s = some x → σ.sl s = x ∧ x.kp (outU used) = x
  | [], _, s, x, hx => by simp at hx
  | (t, y) :: r, h, s, x, hx => by
    rw [List.lookup_cons] at hx
    split at hx
    · rename_i he
      simp only [Option.some.injEq] at hx; subst hx
      rw [beq_iff_eq] at he; subst he; exact h.1
    · exact slotsLe_get h.2 s x hx
theorem heapLe_get {used : List Nat} : ∀ {l : List (Nat × Blk)}, heapLe σ used l → ∀ id b, lookH l id = some b → σ.hp.heap id = some b ∧ b.kp (outU used) = b ∧ (id < 100 ∨ used.contains id = true)
  | [], _, id, b, hb => by cases hb
  | (k, y) :: r, h, id, b, hb => by
    simp only [lookH] at hb
    split at hb
    · rename_i he; subst he; simp only [Option.some.injEq] at hb; subst hb; exact h.1
    · exact heapLe_get h.2 id b hb

theorem Wk.mk {slots : List (Nat × AV)} {heap : List (Nat × Blk)} {used : List Nat} (hs : slotsLe σ used slots) (hh : heapLe σ used heap) : Wk P σ (mkS slots heap used) := by
  intro c ρ w loc h
  let loc' : Nat → Option (Nat × Nat) := fun id => if outU used id = true then none else loc id
  have hl : ∀ id, outU used id = false → loc' id = loc id := fun id hid => by simp only [loc', hid, Bool.false_eq_true, if_false]
  have hl2 : ∀ id q, loc' id = some q → loc id = some q := fun id q hq => by
    simp only [loc'] at hq
    split at hq
    · cases hq
    · exact hq
  have hlv : ∀ id, Live (hpOf heap) id → Live σ.hp id ∧ outU used id = false := fun id hv => by
    cases hb : lookH heap id with
    | none => simp [Live, hpOf, hb] at hv
    | some b =>
      obtain ⟨g1, _, g3⟩ := heapLe_get hh id b hb
      refine ⟨by simp [Live, g1], ?_⟩
      simp only [outU, Bool.not_eq_false', Bool.or_eq_true, decide_eq_true_eq]; exact g3
  have hk : ∀ b, okOf c w σ.hp loc b → okOf c w (hpOf heap) loc' b ∧ w.heap[b]? = w.heap[b]? := fun b ⟨h1, h2, h3⟩ =>
    ⟨⟨h1, h2, fun id δ hv he => h3 id δ (hlv id hv).1 (hl2 _ _ he)⟩, rfl⟩
  refine ⟨loc', fun s => ?_, rfl, fun i v x hv => by simp at hv, fun id b hb => ?_, fun id id' b δ δ' l1 l2 e1 e2 => h.inj id id' b δ δ' (hlv id l1).1 (hlv id' l2).1 (hl2 _ _ e1) (hl2 _ _ e2),
    fun id b δ l1 e1 => h.own id b δ (hlv id l1).1 (hl2 _ _ e1), h.ext, fun id hid => ?_, fun id hid => ?_, fun id hid => ?_⟩
  · simp only [mkS]
    split
    · rename_i x hx
      obtain ⟨g1, g2⟩ := slotsLe_get hs s x hx
      have := (h.slots s).mono_kp hk (Shapes.refl w) (outU used) hl
      rwa [g1, g2] at this
    · exact .unk _
  · obtain ⟨g1, g2, g3⟩ := heapLe_get hh id b hb
    have ho : outU used id = false := by simp only [outU, Bool.not_eq_false', Bool.or_eq_true, decide_eq_true_eq]; exact g3
    have := (h.heap id b g1).mono_kp hk (Shapes.refl w) (outU used) ho hl fun _ _ _ => rfl
    rwa [g2] at this
  · rw [hl id (by simp [outU, hid])]; exact h.fix id hid
  · have : outU used id = true := by simpa [outU, mkS] using hid
    simp only [loc', this, if_true]
  · have := (hlv id hid).2
    simp only [outU, Bool.not_eq_false'] at this
    exact this

/-- A nil slice in a slot is taken as one of the frame's own. -/
theorem Wk.adopt (s k sz : Nat) (hs : σ.sl s = .nl) (hf : σ.free k) : Wk P σ { (σ.new k (.ar sz [])) with sl := upd σ.sl s (.sl sz k 0 0) } := by
  intro c ρ w loc h
  have h2 := h.adopt k hf sz
  refine ⟨loc, fun t => ?_, h2.len, h2.vals, h2.heap, h2.inj, h2.own, h2.ext, h2.fix, h2.dom, h2.liveU⟩
  simp only [upd]
  by_cases ht : t = s
  · subst ht
    rw [if_pos rfl]
    have := h.slots t
    rw [hs] at this
    generalize ρ t = v at this
    cases this; exact .sl0 none sz k 0
  · rw [if_neg ht]; exact h2.slots t

end
end Go.Fw
