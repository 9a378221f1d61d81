/- Operations that make or write memory: slices of the frame's own. -/
import Derived.Test.YtfiipgebdcbknaaFwF
set_option linter.unusedSimpArgs false
set_option linter.unusedVariables false
namespace Go.Fw
open Go

/-- A value as a datum: what must hold, the datum, and the blocks that must be given up for it. -/
def toD1 (hp : HP) : AV → Option (Prop × D × List Nat)
  | .d x => some (True, x, [])
  | .nl => some (True, .list [], [])
  | .sl sz id off len => match hp.heap id with
    | some (.ar sz' xs) => some (sz = sz' ∧ off + len ≤ xs.length, .list ((xs.drop off).take len), [id])
    | _ => none
  | _ => none
def toDs (hp : HP) : List AV → Option (Prop × List D × List Nat)
  | [] => some (True, [], [])
  | x :: r => match toD1 hp x, toDs hp r with
    | some (p, y, l), some (q, ys, l') => some (p ∧ q, y :: ys, l ++ l')
    | _, _ => none
def toD (hp : HP) : AV → Option (Prop × D × List Nat)
  | .ag cs => (toDs hp cs).map fun p => (p.1, .agg p.2.1, p.2.2)
  | x => toD1 hp x

def HP.dropL (hp : HP) : List Nat → HP
  | [] => hp
  | id :: r => (hp.drop id).dropL r

section
variable {P : Program} {c : Ctx} {σ : AS} {ρ : Nat → Value} {w : World} {vs : List Value} {xs : List AV} {loc : Nat → Option (Nat × Nat)} {ok : Nat → Prop}

theorem Live.of_drop {hp : HP} {k id : Nat} (h : Live (hp.drop k) id) : id ≠ k ∧ Live hp id := by
  by_cases hid : id = k
  · subst hid; simp [Live, HP.drop, upd] at h
  · exact ⟨hid, by simpa [Live, HP.drop, upd, hid] using h⟩

theorem okOf.drop {hp : HP} (k : Nat) (b : Nat) (h : okOf c w hp loc b) : okOf c w (hp.drop k) loc b :=
  ⟨h.1, h.2.1, fun id δ hl => h.2.2 id δ hl.of_drop.2⟩

theorem RepL.drop (h : RepL P c σ ρ w vs xs loc) (k : Nat) : RepL P c { σ with hp := σ.hp.drop k } ρ w vs xs loc where
  slots s := (h.slots s).mono (fun b hb => ⟨hb.drop k, rfl⟩) (Shapes.refl w)
  len := h.len
  vals i v x hv hx := (h.vals i v x hv hx).mono (fun b hb => ⟨hb.drop k, rfl⟩) (Shapes.refl w)
  heap id blk hb := by
    have hne : id ≠ k := fun he => by subst he; simp [HP.drop, upd] at hb
    have hb' : σ.hp.heap id = some blk := by simpa [HP.drop, upd, hne] using hb
    exact (h.heap id blk hb').mono (fun b hb => ⟨hb.drop k, rfl⟩) (Shapes.refl w) fun _ _ _ => rfl
  inj id id' b δ δ' h1 h2 := h.inj id id' b δ δ' h1.of_drop.2 h2.of_drop.2
  own id b δ h1 := h.own id b δ h1.of_drop.2
  ext := h.ext
  fix := h.fix
  dom := h.dom
  liveU id hl := h.liveU id hl.of_drop.2

theorem RepL.dropL : ∀ (l : List Nat) {σ : AS}, RepL P c σ ρ w vs xs loc → RepL P c { σ with hp := σ.hp.dropL l } ρ w vs xs loc
  | [], _, h => h
  | k :: r, _, h => RepL.dropL r (h.drop k)

theorem okOf.dropL : ∀ (l : List Nat) {hp : HP} (b : Nat), okOf c w hp loc b → okOf c w (hp.dropL l) loc b
  | [], _, _, h => h
  | k :: r, hp, b, h => okOf.dropL r b (h.drop k)

theorem dropL_heap : ∀ (l : List Nat) (hp : HP) (id : Nat), (hp.dropL l).heap id = if id ∈ l then none else hp.heap id
  | [], hp, id => by simp [HP.dropL]
  | k :: r, hp, id => by
    rw [HP.dropL, dropL_heap r]
    by_cases h1 : id ∈ r
    · simp [h1]
    · by_cases h2 : id = k
      · subst h2; simp [HP.drop, upd]
      · simp [h1, h2, HP.drop, upd]

theorem okOf.own {h : RepL P c σ ρ w vs xs loc} {id b δ : Nat} (hl : Live σ.hp id) (he : loc id = some (b, δ)) {l : List Nat} (hm : id ∈ l) : okOf c w (σ.hp.dropL l) loc b := by
  obtain ⟨h1, h2, h3⟩ := h.own id b δ hl he
  refine ⟨h1, .inr h3, fun id' δ' hl' he' => ?_⟩
  have hl2 : Live σ.hp id' := by
    simp only [Live, dropL_heap] at hl' ⊢
    split at hl'
    · simp at hl'
    · exact hl'
  have := h.inj id' id b δ' δ hl2 hl he' he
  subst this
  simp [Live, dropL_heap, hm] at hl'

/-- The elements of a slice of the frame's own, as data. -/
theorem ar_list {sz id off len : Nat} {v : Value} {ys : List D} (hv : RepA P w ok loc v (.sl sz id off len)) (hb : RepB P w ok loc id (.ar sz ys)) (hle : off + len ≤ ys.length)
    {ok' : Nat → Prop} (hok : ∀ b, ok b → ok' b) (hown : ∀ b δ, loc id = some (b, δ) → ok' b) : RepV w ok' v (.list ((ys.drop off).take len)) := by
  cases hv with
  | sl0 base =>
    rw [List.take_zero]; exact .nil _ _
  | @sl _ _ _ _ b δ cap c T fz hl hh hcap hlen hm =>
    cases hb with
    | ar0 sz hl' => rw [hl] at hl'; cases hl'
    | @ar b' δ' c' T' _ _ us hl' hh' hz hsz hc hu =>
      rw [hl] at hl'; simp only [Option.some.injEq, Prod.mk.injEq] at hl'; obtain ⟨rfl, rfl⟩ := hl'
      have get : ∀ i x, ((ys.drop off).take len)[i]? = some x → ys[off + i]? = some x := fun i x hx => by
        rw [List.getElem?_take] at hx
        split at hx
        · rwa [List.getElem?_drop] at hx
        · cases hx
      refine .list (fun i j => us (off + i) j) (by simp; omega) hlen (hown b δ hl) hh' (fun x hx => hsz x (List.mem_of_mem_drop (List.mem_of_mem_take hx))) (fun i j x y hx hy => ?_)
        (fun i j x y hx hy => (hu _ _ _ _ (get i x hx) hy).mono fun b hb => ⟨hok b hb, rfl⟩)
      have := hc _ _ _ _ (get i x hx) hy
      rw [Nat.add_mul] at this
      rw [show δ + off * sz + i * sz + j = δ + (off * sz + i * sz) + j by omega]; exact this

theorem toD1_rep (h : RepL P c σ ρ w vs xs loc) {v : Value} {x : AV} {p : Prop} {y : D} {l l' : List Nat} (hx : toD1 σ.hp x = some (p, y, l)) (hp : p)
    (hv : RepA P w (okOf c w σ.hp loc) loc v x) (hsub : ∀ i ∈ l, i ∈ l') : RepV w (okOf c w (σ.hp.dropL l') loc) v y := by
  cases x <;> simp only [toD1] at hx <;> first | (cases hx; done) | skip
  case d x =>
    simp only [Option.some.injEq, Prod.mk.injEq] at hx; obtain ⟨rfl, rfl, rfl⟩ := hx
    cases hv with | d hv => exact hv.mono fun b hb => ⟨hb.dropL _ _, rfl⟩
  case nl =>
    simp only [Option.some.injEq, Prod.mk.injEq] at hx; obtain ⟨rfl, rfl, rfl⟩ := hx
    cases hv; exact .nil _ _
  case sl sz id off len =>
    split at hx
    · rename_i sz' ys hh
      simp only [Option.some.injEq, Prod.mk.injEq] at hx; obtain ⟨rfl, rfl, rfl⟩ := hx
      obtain ⟨rfl, hle⟩ := hp
      have hlive : Live σ.hp id := by simp [Live, hh]
      exact ar_list hv (h.heap id _ hh) hle (fun b hb => hb.dropL _ _) fun b δ hl => okOf.own (h := h) hlive hl (hsub id (by simp))
    · cases hx

theorem toDs_rep (h : RepL P c σ ρ w vs xs loc) : ∀ {cs : List AV} {p : Prop} {ys : List D} {l l' : List Nat}, toDs σ.hp cs = some (p, ys, l) → p → (∀ i ∈ l, i ∈ l') →
    ys.length = cs.length ∧ ∀ (i : Nat) v x y, cs[i]? = some x → ys[i]? = some y → RepA P w (okOf c w σ.hp loc) loc v x → RepV w (okOf c w (σ.hp.dropL l') loc) v y
  | [], p, ys, l, l', hx, hp, hs => by
    simp only [toDs, Option.some.injEq, Prod.mk.injEq] at hx; obtain ⟨_, rfl, _⟩ := hx
    exact ⟨rfl, fun i v x y h1 => by simp at h1⟩
  | x :: r, p, ys, l, l', hx, hp, hs => by
    simp only [toDs] at hx
    split at hx
    · rename_i p1 y l1 q ys' l2 e1 e2
      simp only [Option.some.injEq, Prod.mk.injEq] at hx; obtain ⟨rfl, rfl, rfl⟩ := hx
      obtain ⟨i1, i2⟩ := toDs_rep h e2 hp.2 fun i hi => hs i (by simp [hi])
      refine ⟨by simp [i1], fun i v x' y' h1 h2 h3 => ?_⟩
      cases i with
      | zero => simp at h1 h2; subst h1; subst h2; exact toD1_rep h e1 hp.1 h3 fun i hi => hs i (by simp [hi])
      | succ i => simp at h1 h2; exact i2 i v x' y' h1 h2 h3
    · cases hx

theorem toD_rep (h : RepL P c σ ρ w vs xs loc) {v : Value} {x : AV} {p : Prop} {y : D} {l l' : List Nat} (hx : toD σ.hp x = some (p, y, l)) (hp : p)
    (hv : RepA P w (okOf c w σ.hp loc) loc v x) (hsub : ∀ i ∈ l, i ∈ l') : RepV w (okOf c w (σ.hp.dropL l') loc) v y := by
  cases x with
  | ag cs =>
    simp only [toD, Option.map_eq_some_iff] at hx
    obtain ⟨⟨p', ys, l1⟩, hx, he⟩ := hx
    simp only [Prod.mk.injEq] at he; obtain ⟨rfl, rfl, rfl⟩ := he
    obtain ⟨i1, i2⟩ := toDs_rep h hx hp hsub
    cases hv with | ag h1 h2 =>
    refine .agg (by omega) fun i u z hu hz => ?_
    have hlt : i < cs.length := by have := (List.getElem?_eq_some_iff.1 hz).1; omega
    exact i2 i u cs[i] z (List.getElem?_eq_getElem hlt) hz (h2 i u cs[i] hu (List.getElem?_eq_getElem hlt))
  | _ => unfold toD at hx; exact toD1_rep h hx hp hv hsub
end
end Go.Fw
