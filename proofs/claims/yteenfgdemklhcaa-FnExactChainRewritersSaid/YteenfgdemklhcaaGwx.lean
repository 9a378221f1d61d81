/- The framework, part Gwx. -/
import Derived.Test.YteenfgdemklhcaaFwb
set_option linter.unusedSimpArgs false
set_option linter.unusedVariables false
/- A block of the frame's own under another number. -/
namespace Go.Fw
open Go

def gR (k k' id : Nat) : Nat := if id = k then k' else id
/-- Block 'k' gets the number 'q'. -/
def AS.renB (σ : AS) (k q : Nat) : AS :=
  ⟨fun s => (σ.sl s).ren (gR k q), ⟨fun id => if id = q then (σ.hp.heap k).map (Blk.ren (gR k q)) else if id = k then none else (σ.hp.heap id).map (Blk.ren (gR k q)), σ.hp.lock⟩, upd σ.used q true⟩

section
variable {P : Program} {σ : AS}

theorem Wk.renB (k q : Nat) (hk : (100 ≤ k ∧ k < 1000000000000)) (hne : k ≠ q) (hf : σ.free q) : Wk P σ (σ.renB k q) := by
  intro c ρ w loc h
  obtain ⟨hq1, hq2⟩ := h.free_heap hf
  let loc' : Nat → Option (Nat × Nat) := fun id => if id = q then loc k else if id = k then none else loc id
  have hl1 : loc' q = loc k := by simp [loc']
  have hl2 : loc' k = none := by simp [loc', hne]
  have hl3 : ∀ id, id ≠ q → id ≠ k → loc' id = loc id := fun id h1 h2 => by simp [loc', h1, h2]
  have hg : ∀ id r, loc id = some r → loc' (gR k q id) = some r := fun id r hr => by
    by_cases h1 : id = k
    · subst h1; simp [gR, hl1, hr]
    · have h2 : id ≠ q := fun e => by subst e; rw [hq2] at hr; cases hr
      simp [gR, h1, hl3 id h2 h1, hr]
  have hlive : ∀ id, Live (σ.renB k q).hp id → (id = q ∧ Live σ.hp k) ∨ (id ≠ q ∧ id ≠ k ∧ Live σ.hp id) := fun id hL => by
    unfold Live at hL ⊢
    simp only [AS.renB] at hL
    by_cases h1 : id = q
    · rw [if_pos h1] at hL
      refine .inl ⟨h1, fun e => hL (by rw [e]; rfl)⟩
    · rw [if_neg h1] at hL
      by_cases h2 : id = k
      · rw [if_pos h2] at hL; exact absurd rfl hL
      · rw [if_neg h2] at hL
        exact .inr ⟨h1, h2, fun e => hL (by rw [e]; rfl)⟩
  have hsrc : ∀ id, Live (σ.renB k q).hp id → ∃ j, Live σ.hp j ∧ loc' id = loc j ∧ (id = q → j = k) ∧ (id ≠ q → j = id) := fun id hL => by
    rcases hlive id hL with ⟨h1, h2⟩ | ⟨h1, h2, h3⟩
    · exact ⟨k, h2, by rw [h1, hl1], fun _ => rfl, fun h => absurd h1 h⟩
    · exact ⟨id, h3, hl3 id h1 h2, fun h => absurd h h1, fun _ => rfl⟩
  have hok : ∀ b, okOf c w σ.hp loc b → okOf c w (σ.renB k q).hp loc' b ∧ w.heap[b]? = w.heap[b]? := fun b ⟨h1, h2, h3⟩ => by
    refine ⟨⟨h1, h2, fun id δ hL e => ?_⟩, rfl⟩
    obtain ⟨j, h4, h5, _, _⟩ := hsrc id hL
    exact h3 j δ h4 (h5 ▸ e)
  refine ⟨loc', fun s => ?_, h.len, fun i v x hv hx => ?_, fun id blk hb => ?_, fun id id' b δ δ' h1 h2 e1 e2 => ?_, fun id b δ h1 e1 => ?_, h.ext, fun id hid => ?_, fun id hid => ?_, fun id hL => ?_⟩
  · exact ((h.slots s).ren (gR k q) hg).mono hok (Shapes.refl w)
  · simp at hx
  · simp only [AS.renB] at hb
    by_cases h1 : id = q
    · subst h1
      rw [if_pos rfl, Option.map_eq_some_iff] at hb
      obtain ⟨b0, hb0, rfl⟩ := hb
      have := (h.heap k b0 hb0).ren (gR k id) hg (loc' := loc') (fun e => by simp [gR, hl1, e])
      have e : gR k id k = id := by simp [gR]
      rw [e] at this
      exact this.mono hok (Shapes.refl w) (fun _ _ _ => rfl)
    · rw [if_neg h1] at hb
      by_cases h2 : id = k
      · rw [if_pos h2] at hb; cases hb
      · rw [if_neg h2, Option.map_eq_some_iff] at hb
        obtain ⟨b0, hb0, rfl⟩ := hb
        have := (h.heap id b0 hb0).ren (gR k q) hg (loc' := loc') (fun e => by simp [gR, h2, hl3 id h1 h2, e])
        have e : gR k q id = id := by simp [gR, h2]
        rw [e] at this
        exact this.mono hok (Shapes.refl w) (fun _ _ _ => rfl)
  · obtain ⟨j, a1, a2, a3, a4⟩ := hsrc id h1
    obtain ⟨j', b1, b2, b3, b4⟩ := hsrc id' h2
    have hjj := h.inj j j' b δ δ' a1 b1 (a2 ▸ e1) (b2 ▸ e2)
    by_cases h3 : id = q
    · by_cases h4 : id' = q
      · rw [h3, h4]
      · have q1 := a3 h3
        have q2 := b4 h4
        rcases hlive id' h2 with ⟨h5, _⟩ | ⟨_, h5, _⟩
        · exact absurd h5 h4
        · omega
    · by_cases h4 : id' = q
      · have q1 := b3 h4
        have q2 := a4 h3
        rcases hlive id h1 with ⟨h5, _⟩ | ⟨_, h5, _⟩
        · exact absurd h5 h3
        · omega
      · have q1 := a4 h3
        have q2 := b4 h4
        omega
  · obtain ⟨j, a1, a2, _, _⟩ := hsrc id h1
    exact h.own j b δ a1 (a2 ▸ e1)
  · have h1 : id ≠ q := fun e => by have := hf.1; omega
    have h2 : id ≠ k := by omega
    rw [hl3 id h1 h2]; exact h.fix id hid
  · simp only [AS.renB, upd] at hid
    by_cases h1 : id = q
    · rw [if_pos h1] at hid; cases hid
    · rw [if_neg h1] at hid
      by_cases h2 : id = k
      · rw [h2]; exact hl2
      · rw [hl3 id h1 h2]; exact h.dom id hid
  · simp only [AS.renB, upd]
    by_cases h1 : id = q
    · rw [if_pos h1]
    · rw [if_neg h1]
      rcases hlive id hL with ⟨h5, _⟩ | ⟨_, _, h5⟩
      · exact absurd h5 h1
      · exact h.liveU id h5

theorem renB_sl {k q s : Nat} : (σ.renB k q).sl s = (σ.sl s).ren (gR k q) := rfl
theorem renB_heap {k q id : Nat} : (σ.renB k q).hp.heap id = if id = q then (σ.hp.heap k).map (Blk.ren (gR k q)) else if id = k then none else (σ.hp.heap id).map (Blk.ren (gR k q)) := rfl
theorem renB_used {k q id : Nat} : (σ.renB k q).used id = if id = q then true else σ.used id := rfl
attribute [simp] renB_sl renB_heap renB_used AV.ren AV.renL Blk.ren gR
end
end Go.Fw

/- Rows of rows: results that are, and calls that are handed them to be written. -/
namespace Go.Fw
open Go

section
variable {P : Program} {fz : List Nat} {σ : AS} {Q : Ex → AS → Prop} {K : AS → Prop}

theorem AS.same {a b : AS} (h1 : a.sl = b.sl) (h2 : a.hp.heap = b.hp.heap) (h3 : a.hp.lock = b.hp.lock) (h4 : a.used = b.used) : a = b := by
  obtain ⟨s, ⟨h, l⟩, u⟩ := a
  obtain ⟨s', ⟨h', l'⟩, u'⟩ := b
  simp only at h1 h2 h3 h4
  subst h1 h2 h3 h4
  rfl

/-- New blocks, one after another. -/
def newL (σ : AS) (base : Nat) : List Blk → AS
  | [] => σ
  | b :: r => newL (σ.new base b) (base + 1) r
theorem newL_sl : ∀ (bs : List Blk) (σ : AS) (base : Nat), (newL σ base bs).sl = σ.sl
  | [], _, _ => rfl
  | b :: r, σ, base => newL_sl r (σ.new base b) (base + 1)
theorem newL_lock : ∀ (bs : List Blk) (σ : AS) (base : Nat), (newL σ base bs).hp.lock = σ.hp.lock
  | [], _, _ => rfl
  | b :: r, σ, base => newL_lock r (σ.new base b) (base + 1)
theorem newL_heap : ∀ (bs : List Blk) (σ : AS) (base j : Nat), (newL σ base bs).hp.heap j = match (if base ≤ j then bs[j - base]? else none) with | some b => some b | none => σ.hp.heap j
  | [], σ, base, j => by
    have : (if base ≤ j then ([] : List Blk)[j - base]? else none) = none := by split <;> simp
    rw [this]; rfl
  | b :: r, σ, base, j => by
    rw [newL, newL_heap r (σ.new base b) (base + 1) j]
    rcases Nat.lt_trichotomy j base with h | h | h
    · rw [if_neg (by omega), if_neg (by omega)]
      simp only [AS.new, HP.set, upd, if_neg (show ¬ j = base by omega)]
    · subst h
      rw [if_neg (by omega), if_pos (Nat.le_refl _), Nat.sub_self]
      simp only [AS.new, HP.set, upd, if_true, List.getElem?_cons_zero]
    · rw [if_pos (by omega), if_pos (by omega), show j - base = (j - (base + 1)) + 1 by omega, List.getElem?_cons_succ]
      simp only [AS.new, HP.set, upd, if_neg (show ¬ j = base by omega)]
theorem newL_used : ∀ (bs : List Blk) (σ : AS) (base j : Nat), (newL σ base bs).used j = (inNew base bs.length j || σ.used j)
  | [], σ, base, j => by
    have : inNew base ([] : List Blk).length j = false := by simp [inNew]
    rw [this]; rfl
  | b :: r, σ, base, j => by
    rw [newL, newL_used r (σ.new base b) (base + 1) j]
    simp only [AS.new, upd, inNew, List.length_cons]
    by_cases h : j = base
    · subst h; simp
    · rw [if_neg h]
      congr 1
      simp only [decide_eq_decide]
      omega

theorem posOf_at : ∀ (pre : List (Nat × Blk)) {p : Nat × Blk} {r : List (Nat × Blk)}, p.1 ∉ pre.map Prod.fst → posOf p.1 (pre ++ p :: r) = pre.length
  | [], p, r, _ => by simp [posOf]
  | q :: s, p, r, h => by
    simp only [List.map_cons, List.mem_cons, not_or] at h
    obtain ⟨k, b⟩ := q
    simp only [List.cons_append, posOf, if_neg h.1, posOf_at s h.2, List.length_cons]
theorem look_new {B : Nat × Blk → Blk} {base j : Nat} : ∀ (r pre : List (Nat × Blk)), ((pre ++ r).map Prod.fst).Nodup → lookH (r.map fun p => (base + posOf p.1 (pre ++ r), B p)) j = if base + pre.length ≤ j then (r.map B)[j - (base + pre.length)]? else none
  | [], pre, _ => by simp [lookH]
  | p :: r, pre, h => by
    have hp : p.1 ∉ pre.map Prod.fst := by
      rw [List.map_append, List.map_cons, List.nodup_append] at h
      intro hm
      exact h.2.2 p.1 hm p.1 (by simp) rfl
    have ih := look_new (B := B) (base := base) (j := j) r (pre ++ [p]) (by simpa using h)
    simp only [List.append_assoc, List.singleton_append, List.length_append, List.length_singleton] at ih
    rw [List.map_cons, lookH, posOf_at pre hp, ih, List.map_cons]
    rcases Nat.lt_trichotomy j (base + pre.length) with h1 | h1 | h1
    · rw [if_neg (by omega), if_neg (by omega), if_neg (by omega)]
    · rw [if_pos h1, if_pos (by omega), h1, Nat.sub_self]; rfl
    · rw [if_neg (by omega), if_pos (by omega), if_pos (by omega), show j - (base + pre.length) = (j - (base + (pre.length + 1))) + 1 by omega, List.getElem?_cons_succ]

/-- The new blocks in the caller's numbers. -/
def newBs (base : Nat) (res : List (Nat × Blk)) : List Blk := res.map fun p => (p.2.kp (outE [] res)).ren (renOf (fun _ => 0) base res)
theorem after_newL {base : Nat} {l : List Nat} {res : List (Nat × Blk)} (hnd : (res.map Prod.fst).Nodup) (h100 : ∀ p ∈ res, (100 ≤ p.1 ∧ p.1 < 1000000000000)) : σ.after (fun _ => 0) base false l [] [] res = newL σ base (newBs base res) := by
  have hE : resE (fun _ => 0) base [] [] res = res.map fun p => (base + posOf p.1 ([] ++ res), (p.2.kp (outE [] res)).ren (renOf (fun _ => 0) base res)) := by
    simp only [resE, List.zip_nil_left, List.nil_append]
    refine List.map_congr_left fun p hp => ?_
    have := h100 p hp
    simp only [renOf, if_neg (show ¬ (p.1 < 100 ∨ 1000000000000 ≤ p.1) by omega)]
  refine AS.same (by rw [newL_sl]; rfl) ?_ (by rw [newL_lock]; rfl) ?_
  · funext j
    rw [newL_heap]
    show (match lookH (resE (fun _ => 0) base [] [] res) j with | some b => some b | none => σ.hp.heap j) = _
    rw [hE, look_new (B := fun p => (p.2.kp (outE [] res)).ren (renOf (fun _ => 0) base res)) (base := base) (j := j) res [] (by simpa using hnd)]
    rfl
  · funext j
    rw [newL_used]
    show (inNew base res.length j || σ.used j) = _
    simp [newBs]

/-! ### Results -/
def retXP (σ : AS) (q : PA) (R : AV → List (Nat × Blk) → Prop) : Prop :=
  q.1 ∧ ∃ res, R q.2 res ∧ (∀ p ∈ res, (100 ≤ p.1 ∧ p.1 < 1000000000000) ∧ σ.hp.heap p.1 = some p.2 ∧ p.2.kp (keepP res) = p.2) ∧ q.2.kp (keepP res) = q.2
def retX (P : Program) (rs : List ResultVar) (R : AV → List (Nat × Blk) → Prop) : Ex → AS → Prop
  | .exit _, _ => False
  | _, σ => retXP σ (resAV P σ rs) R
theorem retX_r {rs : List ResultVar} {R : AV → List (Nat × Blk) → Prop} : retX P rs R .ret σ = retXP σ (resAV P σ rs) R := rfl
theorem retX_n {rs : List ResultVar} {R : AV → List (Nat × Blk) → Prop} : retX P rs R .normal σ = retXP σ (resAV P σ rs) R := rfl
theorem retXP_is {p : Prop} {x : AV} {R : AV → List (Nat × Blk) → Prop} : retXP σ (p, x) R = (p ∧ ∃ res, R x res ∧ (∀ p ∈ res, (100 ≤ p.1 ∧ p.1 < 1000000000000) ∧ σ.hp.heap p.1 = some p.2 ∧ p.2.kp (keepP res) = p.2) ∧ x.kp (keepP res) = x) := rfl

/-- A function whose result lies in new rows, rows of rows among them. -/
theorem gcalls_intro {f : FuncId} {fn : Func} {code : Code} {n : Nat} {rs : List ResultVar} (hm : P.follows .mixedOrders = true) (hf : P.funcs[f]? = some fn) (hb : fn.body = some code) (hn : fn.ntmps = n) (hr : fn.results.toList = rs)
    (fz : List Nat) (hst : slotsOk n code = true) {args : List AV} {R : AV → List (Nat × Blk) → Prop}
    (hargs : args.length ≤ n) (hv : VC P fz code (entryS args []) (retX P rs R)) : FCalls P f args R := by
  subst hn; subst hr
  refine acalls_of_vcQ hm hf hb fz hst hargs (Q := retX P fn.results.toList R) (fun ex σ h => ?_) hv
  have key : retXP σ (resAV P σ fn.results.toList) R → (resAV P σ fn.results.toList).1 ∧ RetVC P [] σ (resAV P σ fn.results.toList).2 fun x _ res => R x res := fun h => by
    obtain ⟨h1, res, h2, h3, h4⟩ := h
    refine ⟨h1, .keep [] res rfl (fun p hp => (h3 p hp).1) (fun q hq => ?_) (by simpa using h4) h2⟩
    simp only [List.zip_nil_left, List.nil_append] at hq ⊢
    exact ⟨(h3 q hq).2.1, (h3 q hq).2.2⟩
  cases ex with
  | exit i => exact h
  | normal => exact key h
  | ret => exact key h

theorem CallVC.freshG {f : FuncId} {as args args' : List AV} {p : Prop} {R : AV → List (Nat × Blk) → Prop} {K : AV → AS → Prop} (base : Nat) (hc : FCalls P f args R) (hv : viewL P σ.hp as = some (p, args', [])) (he : args' = args) (hp : p) (hb : (100 ≤ base ∧ base < 1000000000000))
    (hk : ∀ x res, R x res → ((res.map Prod.fst).Nodup ∧ (∀ p ∈ res, (100 ≤ p.1 ∧ p.1 < 1000000000000)) ∧ (∀ j, j < res.length → (σ.used (base + j) = false ∧ base + j < 1000000000000))) ∧ K (x.back (fun _ => 0) base [] res) (newL σ base (newBs base res))) : CallVC P f as σ K :=
  .freshF base false hc hv he hp hb fun x res h => by
    obtain ⟨⟨h1, h2, h3⟩, h4⟩ := hk x res h
    exact ⟨⟨h1, h3, .inr (.inl rfl)⟩, by rw [after_newL h1 h2]; exact h4⟩

/-! ### Rows of rows that are handed over to be written -/

def setAll (hp : HP) : List (Nat × Blk) → HP
  | [] => hp
  | (k, b) :: r => (setAll hp r).set k b
theorem setL_all (hp : HP) : ∀ E, setL hp E = setAll hp E
  | [] => rfl
  | (k, b) :: r => by
    rw [setAll, ← setL_all hp r]
    simp only [setL, HP.set]
    congr 1
    funext j
    simp only [lookH, upd]
    by_cases h : j = k <;> simp [h]

def MCalls (P : Program) (f : FuncId) (args : List AV) (hs : List (Nat × Blk)) (R : D → List Blk → Prop) : Prop := ACalls P f args hs fun x bs res => (∃ r, x = .d r ∧ R r bs) ∧ res = []
def retMP (keys : List Nat) (σ : AS) (q : PA) (R : D → List Blk → Prop) : Prop :=
  q.1 ∧ ∃ r bs, q.2 = .d r ∧ R r bs ∧ keys.map σ.hp.heap = bs.map some ∧ ∀ b ∈ bs, b.kp (keepP (keys.zip bs)) = b
def retM (P : Program) (keys : List Nat) (rs : List ResultVar) (R : D → List Blk → Prop) : Ex → AS → Prop
  | .exit _, _ => False
  | _, σ => retMP keys σ (resAV P σ rs) R
theorem retM_r {keys : List Nat} {rs : List ResultVar} {R : D → List Blk → Prop} : retM P keys rs R .ret σ = retMP keys σ (resAV P σ rs) R := rfl
theorem retM_n {keys : List Nat} {rs : List ResultVar} {R : D → List Blk → Prop} : retM P keys rs R .normal σ = retMP keys σ (resAV P σ rs) R := rfl
theorem retMP_is {keys : List Nat} {p : Prop} {x : AV} {R : D → List Blk → Prop} : retMP keys σ (p, x) R = (p ∧ ∃ r bs, x = .d r ∧ R r bs ∧ keys.map σ.hp.heap = bs.map some ∧ ∀ b ∈ bs, b.kp (keepP (keys.zip bs)) = b) := rfl

theorem mcalls_intro {f : FuncId} {fn : Func} {code : Code} {n : Nat} {rs : List ResultVar} (hm : P.follows .mixedOrders = true) (hf : P.funcs[f]? = some fn) (hb : fn.body = some code) (hn : fn.ntmps = n) (hr : fn.results.toList = rs)
    (fz : List Nat) (hst : slotsOk n code = true) {args : List AV} {hs : List (Nat × Blk)} {R : D → List Blk → Prop}
    (hargs : args.length ≤ n) (hv : VC P fz code (entryS args hs) (retM P (hs.map Prod.fst) rs R)) : MCalls P f args hs R := by
  subst hn; subst hr
  refine acalls_of_vcQ hm hf hb fz hst hargs (Q := retM P (hs.map Prod.fst) fn.results.toList R) (fun ex σ h => ?_) hv
  have key : retMP (hs.map Prod.fst) σ (resAV P σ fn.results.toList) R → (resAV P σ fn.results.toList).1 ∧ RetVC P (hs.map Prod.fst) σ (resAV P σ fn.results.toList).2 fun x bs res => (∃ r, x = .d r ∧ R r bs) ∧ res = [] := fun h => by
    obtain ⟨h1, r, bs, h2, h3, h4, h5⟩ := h
    have hl : bs.length = (hs.map Prod.fst).length := by have := congrArg List.length h4; simpa using this.symm
    refine ⟨h1, .keep bs [] hl (by simp) (fun q hq => ?_) (by rw [h2]; rfl) ⟨⟨r, h2, h3⟩, rfl⟩⟩
    rw [List.append_nil] at hq ⊢
    obtain ⟨i, hi, he⟩ := List.mem_iff_getElem.1 hq
    have hi1 : i < (hs.map Prod.fst).length := by simp at hi ⊢; omega
    have hi2 : i < bs.length := by omega
    have e : q = ((hs.map Prod.fst)[i], bs[i]) := by rw [← he]; simp
    subst e
    have := congrArg (fun l => l[i]?) h4
    simp only [List.getElem?_map, List.getElem?_eq_getElem hi2, Option.map_some] at this
    rw [List.getElem?_eq_getElem (by simpa using hi1)] at this
    exact ⟨by simpa using this, h5 _ (List.getElem_mem hi2)⟩
  cases ex with
  | exit i => exact h
  | normal => exact key h
  | ret => exact key h

theorem CallVC.lendM {f : FuncId} {as args : List AV} {hs : List (Nat × Blk)} {R : D → List Blk → Prop} {K : AV → AS → Prop} (g : Nat → Nat) (hc : MCalls P f args hs R) (has : as = args.map (AV.ren g)) (hg0 : ∀ q, q ∉ hs.map Prod.fst → g q = 0)
    (hhs : ∀ q blk, (q, blk) ∈ hs → (0 < q ∧ (q < 100 ∨ 1000000000000 ≤ q)) ∧ σ.hp.heap (g q) = some (blk.ren g)) (hnd : (hs.map Prod.fst).Nodup) (hginj : ∀ q q', q ∈ hs.map Prod.fst → q' ∈ hs.map Prod.fst → g q = g q' → q = q')
    (hk : ∀ r bs, bs.length = hs.length → R r bs → K (.d r) (σ.withHp (setAll σ.hp (resE g 100 (hs.map Prod.fst) bs [])))) : CallVC P f as σ K := by
  intro c ρ w vals loc hr
  subst has
  refine (hr.call (args := args) (hs := hs) [] g 100 (by omega) (by simp) (fun i x y v ha hb hrr => ?_) hg0 (fun q blk hq => ?_) hnd hginj hc).mono fun e w' ⟨v, x, bs, res, he, hkk, hbl, hfin⟩ => ?_
  · have : y = x.ren g := by
      rw [List.getElem?_map, ha] at hb; simpa using hb.symm
    subst this
    exact hrr.unren g x rfl
  · obtain ⟨h1, h3⟩ := hhs q blk hq
    exact ⟨h1, by simp, h3⟩
  · obtain ⟨⟨r, rfl, hR⟩, rfl⟩ := hkk
    obtain ⟨loc', hr'⟩ := hfin ⟨by simp, by simp⟩ false (.inr (.inl rfl))
    refine ⟨v, _, _, loc', he, hk r bs hbl hR, ?_⟩
    have e1 : (AV.d r).back g 100 (hs.map Prod.fst) [] = .d r := rfl
    have e2 : σ.after g 100 false [] (hs.map Prod.fst) bs [] = σ.withHp (setAll σ.hp (resE g 100 (hs.map Prod.fst) bs [])) := by
      refine AS.same rfl ?_ ?_ ?_
      · rw [← setL_all]; rfl
      · rw [← setL_all]; rfl
      · funext j
        show (inNew 100 ([] : List (Nat × Blk)).length j || σ.used j) = σ.used j
        have : inNew 100 ([] : List (Nat × Blk)).length j = false := by simp [inNew]
        rw [this, Bool.false_or]
    rw [← e1, ← e2]
    exact hr'

attribute [simp] retX_r retX_n retXP_is retM_r retM_n retMP_is
end
end Go.Fw

/- Families of rows: row i of an outer slice is block b + i. -/
namespace Go.Fw
open Go

def famC (b : Nat) : List (List D) → List AV
  | [] => []
  | r :: t => .sl 1 b 0 r.length :: famC (b + 1) t
def famH (b : Nat) : List (List D) → List (Nat × Blk)
  | [] => []
  | r :: t => (b, .ar 1 r) :: famH (b + 1) t
theorem famC_len : ∀ (L : List (List D)) (b : Nat), (famC b L).length = L.length
  | [], _ => rfl
  | _ :: t, b => by simp [famC, famC_len t (b + 1)]
theorem famC_get : ∀ (L : List (List D)) (b i : Nat), (famC b L)[i]? = (L[i]?).map fun r => .sl 1 (b + i) 0 r.length
  | [], _, i => by simp [famC]
  | r :: t, b, 0 => by simp [famC]
  | r :: t, b, i + 1 => by
    rw [famC, List.getElem?_cons_succ, famC_get t (b + 1) i, List.getElem?_cons_succ, show b + 1 + i = b + (i + 1) by omega]
theorem famC_snoc : ∀ (L : List (List D)) (b : Nat) (r : List D), famC b (L ++ [r]) = famC b L ++ [.sl 1 (b + L.length) 0 r.length]
  | [], b, r => by simp [famC]
  | x :: t, b, r => by
    rw [List.cons_append, famC, famC_snoc t (b + 1) r, famC, List.cons_append, List.length_cons, show b + 1 + t.length = b + (t.length + 1) by omega]
theorem famH_snoc : ∀ (L : List (List D)) (b : Nat) (r : List D), famH b (L ++ [r]) = famH b L ++ [(b + L.length, .ar 1 r)]
  | [], b, r => by simp [famH]
  | x :: t, b, r => by
    rw [List.cons_append, famH, famH_snoc t (b + 1) r, famH, List.cons_append, List.length_cons, show b + 1 + t.length = b + (t.length + 1) by omega]
theorem famH_look : ∀ (L : List (List D)) (b j : Nat), lookH (famH b L) j = if b ≤ j then (L[j - b]?).map (.ar 1) else none
  | [], b, j => by simp [famH, lookH]
  | r :: t, b, j => by
    rw [famH, lookH, famH_look t (b + 1) j]
    rcases Nat.lt_trichotomy j b with h | h | h
    · rw [if_neg (by omega), if_neg (by omega), if_neg (by omega)]
    · subst h; simp
    · rw [if_neg (by omega), if_pos (by omega), if_pos (by omega), show j - b = (j - (b + 1)) + 1 by omega, List.getElem?_cons_succ]
theorem famH_low {L : List (List D)} {b j : Nat} (h : j < b) : lookH (famH b L) j = none := by
  rw [famH_look, if_neg (by omega)]
theorem famH_at {L : List (List D)} {b i : Nat} {r : List D} (h : L[i]? = some r) : lookH (famH b L) (b + i) = some (.ar 1 r) := by
  rw [famH_look, if_pos (by omega), Nat.add_sub_cancel_left, h]; rfl
theorem famC_kill : ∀ (L : List (List D)) (b k : Nat), k < b → (famC b L).map (AV.kill k) = famC b L
  | [], _, _, _ => rfl
  | r :: t, b, k, h => by
    rw [famC, List.map_cons, famC_kill t (b + 1) k (by omega)]
    simp [AV.kill, show ¬ b = k by omega]
theorem famC_kp : ∀ (L : List (List D)) (b : Nat) (p : Nat → Bool), (∀ i, i < L.length → p (b + i) = false) → AV.kpL p (famC b L) = famC b L
  | [], _, _, _ => rfl
  | r :: t, b, p, h => by
    rw [famC, AV.kpL, famC_kp t (b + 1) p fun i hi => by rw [show b + 1 + i = b + (i + 1) by omega]; exact h (i + 1) (by simpa using hi)]
    have := h 0 (by simp)
    simp only [Nat.add_zero] at this
    simp [AV.kp, this]
theorem famC_ren : ∀ (L : List (List D)) (b b' : Nat) (g : Nat → Nat), (∀ i, i < L.length → g (b + i) = b' + i) → AV.renL g (famC b L) = famC b' L
  | [], _, _, _, _ => rfl
  | r :: t, b, b', g, h => by
    rw [famC, AV.renL, famC_ren t (b + 1) (b' + 1) g fun i hi => by rw [show b + 1 + i = b + (i + 1) by omega, h (i + 1) (by simpa using hi)]; omega]
    have := h 0 (by simp)
    simp only [Nat.add_zero] at this
    simp [AV.ren, this, famC]
/-- The rows as data. -/
theorem toD0s_fam {hp : HP} : ∀ (L : List (List D)) (b : Nat), (∀ i r, L[i]? = some r → hp.heap (b + i) = some (.ar 1 r)) → ∃ p l, toD0s hp (famC b L) = some (p, L.map .list, l) ∧ p
  | [], _, _ => ⟨True, [], rfl, trivial⟩
  | r :: t, b, h => by
    obtain ⟨p, l, h1, h2⟩ := toD0s_fam (hp := hp) t (b + 1) fun i x hx => by rw [show b + 1 + i = b + (i + 1) by omega]; exact h (i + 1) x (by simpa using hx)
    have h0 := h 0 r (by simp)
    rw [Nat.add_zero] at h0
    refine ⟨(1 = 1 ∧ 0 + r.length ≤ r.length) ∧ p, [b] ++ l, ?_, ⟨⟨rfl, by omega⟩, h2⟩⟩
    simp [famC, toD0s, toD0, h0, h1]
theorem toD1_fam {hp : HP} {L : List (List D)} {b id : Nat} {cs : List AV} (hid : hp.heap id = some (.bx (famC b L ++ cs))) (h : ∀ i r, L[i]? = some r → hp.heap (b + i) = some (.ar 1 r)) : ∃ p l, toD1 hp (.sl 1 id 0 L.length) = some (p, .list (L.map .list), l) ∧ p := by
  obtain ⟨p, l, h1, h2⟩ := toD0s_fam L b h
  have e : ((famC b L ++ cs).drop 0).take L.length = famC b L := by
    rw [List.drop_zero, List.take_left' (famC_len L b)]
  refine ⟨p ∧ 1 = 1 ∧ 0 + L.length ≤ (famC b L ++ cs).length ∧ ∀ y ∈ L.map D.list, y.isAgg = false, id :: l, ?_, h2, rfl, ?_, fun y hy => ?_⟩
  · simp only [toD1, hid, e, h1, toDx]
  · rw [List.length_append, famC_len]; omega
  · obtain ⟨x, _, rfl⟩ := List.mem_map.1 hy; rfl

/-- The outer cells and the room behind them, of which nothing is known. -/
def outY (b : Nat) (L : List (List D)) (r : Nat) : List AV := famC b L ++ List.replicate r .unk
theorem outY_len {b : Nat} {L : List (List D)} {r : Nat} : (outY b L r).length = L.length + r := by simp [outY, famC_len]
theorem outY_get {b i r : Nat} {L : List (List D)} (h : i < L.length) : (outY b L r)[i]? = some (.sl 1 (b + i) 0 L[i].length) := by
  rw [outY, List.getElem?_append_left (by rw [famC_len]; exact h), famC_get, List.getElem?_eq_getElem h]; rfl
theorem outY_kill {b k r : Nat} {L : List (List D)} (h : k < b) : (outY b L r).map (AV.kill k) = outY b L r := by
  simp [outY, famC_kill L b k h, AV.kill]
theorem kpL_app (p : Nat → Bool) : ∀ a c : List AV, AV.kpL p (a ++ c) = AV.kpL p a ++ AV.kpL p c
  | [], c => rfl
  | x :: t, c => by rw [List.cons_append, AV.kpL, AV.kpL, kpL_app p t c]; rfl
theorem renL_app (g : Nat → Nat) : ∀ a c : List AV, AV.renL g (a ++ c) = AV.renL g a ++ AV.renL g c
  | [], c => rfl
  | x :: t, c => by rw [List.cons_append, AV.renL, AV.renL, renL_app g t c]; rfl
theorem kpL_unk (p : Nat → Bool) : ∀ r : Nat, AV.kpL p (List.replicate r .unk) = List.replicate r .unk
  | 0 => rfl
  | r + 1 => by rw [List.replicate_succ, AV.kpL, kpL_unk p r]; rfl
theorem renL_unk (g : Nat → Nat) : ∀ r : Nat, AV.renL g (List.replicate r .unk) = List.replicate r .unk
  | 0 => rfl
  | r + 1 => by rw [List.replicate_succ, AV.renL, renL_unk g r]; rfl
theorem outY_kp {L : List (List D)} {b r : Nat} {p : Nat → Bool} (h : ∀ i, i < L.length → p (b + i) = false) : AV.kpL p (outY b L r) = outY b L r := by
  rw [outY, kpL_app, famC_kp L b p h, kpL_unk]
theorem outY_ren {L : List (List D)} {b b' r : Nat} {g : Nat → Nat} (h : ∀ i, i < L.length → g (b + i) = b' + i) : AV.renL g (outY b L r) = outY b' L r := by
  rw [outY, renL_app, famC_ren L b b' g h, renL_unk, outY]
theorem outY_flat {L : List (List D)} {b r : Nat} : (outY b L r).all AV.flat1 = true := by
  have h : ∀ (L : List (List D)) (b : Nat), (famC b L).all AV.flat1 = true := fun L => by
    induction L with
    | nil => intro b; rfl
    | cons x t ih => intro b; simp [famC, AV.flat1, ih (b + 1)]
  simp [outY, h, AV.flat1]

/-! ### Families in loop states -/
theorem lookH_app : ∀ (h1 h2 : List (Nat × Blk)) (j : Nat), lookH (h1 ++ h2) j = match lookH h1 j with | some b => some b | none => lookH h2 j
  | [], h2, j => rfl
  | (k, b) :: t, h2, j => by
    rw [List.cons_append, lookH, lookH, lookH_app t h2 j]
    by_cases h : j = k <;> simp [h]
theorem heapLe_app {σ : AS} {used : List Nat} : ∀ (h1 h2 : List (Nat × Blk)), heapLe σ used (h1 ++ h2) ↔ heapLe σ used h1 ∧ heapLe σ used h2
  | [], h2 => by simp [heapLe]
  | (k, b) :: t, h2 => by
    rw [List.cons_append, heapLe, heapLe, heapLe_app t h2]
    simp only [and_assoc]
theorem heapLe_fam {σ : AS} {used : List Nat} : ∀ (L : List (List D)) (b : Nat), (∀ i r, L[i]? = some r → σ.hp.heap (b + i) = some (.ar 1 r) ∧ ((b + i < 100 ∨ 1000000000000 ≤ b + i) ∨ used.contains (b + i) = true)) → heapLe σ used (famH b L)
  | [], _, _ => trivial
  | r :: t, b, h => by
    refine ⟨?_, heapLe_fam t (b + 1) fun i x hx => by rw [show b + 1 + i = b + (i + 1) by omega]; exact h (i + 1) x (by simpa using hx)⟩
    obtain ⟨h1, h2⟩ := h 0 r (by simp)
    exact ⟨h1, rfl, h2⟩
/-- The numbers of a family. -/
def famU (b n : Nat) : List Nat := List.range' b n
theorem famU_in {b n j : Nat} : (famU b n).contains j = decide (b ≤ j ∧ j < b + n) := by
  rw [Bool.eq_iff_iff]
  simp [famU, List.mem_range'_1]
theorem famU_app {b n j : Nat} {l : List Nat} : (l ++ famU b n).contains j = (l.contains j || decide (b ≤ j ∧ j < b + n)) := by
  rw [← famU_in]; simp [List.contains_eq_mem]
end Go.Fw

/- Results that are families of rows; families in loops; calls that read live rows. -/
namespace Go.Fw
open Go

section
variable {P : Program} {σ : AS}

/-- A loop whose states are written out; the numbers in use may change. -/
theorem LoopVC.atU {body : AS → (Ex → AS → Prop) → Prop} {Q : Ex → AS → Prop} (G : Type) (slots : G → List (Nat × AV)) (heap : G → List (Nat × Blk)) (used : G → List Nat) (μ : G → Nat) (g0 : G) (hs : slotsLe σ (used g0) (slots g0)) (hh : heapLe σ (used g0) (heap g0))
    (h : ∀ g, body (mkS (slots g) (heap g) (used g)) (loopQ P (fun g => mkS (slots g) (heap g) (used g)) μ g Q)) : LoopVC P body σ Q :=
  ⟨G, fun g => mkS (slots g) (heap g) (used g), μ, g0, .mk hs hh, h⟩
theorem CallVC.wk {σ' : AS} {f : FuncId} {as : List AV} {K : AV → AS → Prop} (hw : Wk P σ σ') (hsame : ∀ c ρ w vals loc, RepL P c σ ρ w vals as loc → RepL P c σ' ρ w vals as loc) (h : CallVC P f as σ' K) : CallVC P f as σ K :=
  fun c ρ w vals loc hr => h c ρ w vals loc (hsame c ρ w vals loc hr)

theorem CallVC.freshV {f : FuncId} {as args args' : List AV} {p : Prop} {l : List Nat} {R : AV → List (Nat × Blk) → Prop} {K : AV → AS → Prop} (base : Nat) (hc : FCalls P f args R) (hv : viewL P σ.hp as = some (p, args', l)) (he : args' = args) (hp : p) (hb : (100 ≤ base ∧ base < 1000000000000))
    (hk : ∀ x res, R x res → ((res.map Prod.fst).Nodup ∧ (∀ p ∈ res, (100 ≤ p.1 ∧ p.1 < 1000000000000)) ∧ (∀ j, j < res.length → (σ.used (base + j) = false ∧ base + j < 1000000000000)) ∧ (l = [] ∨ (x.flatR = true ∧ res.all (fun p => p.2.flatR) = true))) ∧ K (x.back (fun _ => 0) base [] res) (newL σ base (newBs base res))) : CallVC P f as σ K :=
  .freshF base false hc hv he hp hb fun x res h => by
    obtain ⟨⟨h1, h2, h3, h5⟩, h4⟩ := hk x res h
    exact ⟨⟨h1, h3, .inr h5⟩, by rw [after_newL h1 h2]; exact h4⟩

theorem posOf_app {k : Nat} : ∀ {h1 : List (Nat × Blk)} (h2 : List (Nat × Blk)), k ∉ h1.map Prod.fst → posOf k (h1 ++ h2) = h1.length + posOf k h2
  | [], h2, _ => by simp
  | (q, b) :: t, h2, h => by
    simp only [List.map_cons, List.mem_cons, not_or] at h
    rw [List.cons_append, posOf, if_neg h.1, posOf_app h2 h.2, List.length_cons]; omega
theorem posOf_fam : ∀ {L : List (List D)} {b i : Nat} (t : List (Nat × Blk)), i < L.length → posOf (b + i) (famH b L ++ t) = i
  | [], _, _, _, h => by simp at h
  | x :: L, b, 0, t, _ => by simp [famH, posOf]
  | x :: L, b, i + 1, t, h => by
    rw [famH, List.cons_append, posOf, if_neg (by omega), show b + (i + 1) = b + 1 + i by omega, posOf_fam t (by simpa using h)]
theorem famH_len : ∀ (L : List (List D)) (b : Nat), (famH b L).length = L.length
  | [], _ => rfl
  | _ :: t, b => by simp [famH, famH_len t (b + 1)]
theorem famH_key : ∀ {L : List (List D)} {b q : Nat}, q ∈ (famH b L).map Prod.fst ↔ b ≤ q ∧ q < b + L.length
  | [], b, q => by simp [famH]
  | x :: L, b, q => by
    rw [famH, List.map_cons, List.mem_cons, famH_key (L := L) (b := b + 1)]
    simp only [List.length_cons]; omega
theorem famH_nodup : ∀ (L : List (List D)) (b : Nat), ((famH b L).map Prod.fst).Nodup
  | [], _ => by simp [famH]
  | x :: L, b => by
    rw [famH, List.map_cons, List.nodup_cons, famH_key]
    exact ⟨by omega, famH_nodup L (b + 1)⟩
theorem famH_snd : ∀ (L : List (List D)) (b : Nat) (f : Blk → Blk), (∀ xs, f (.ar 1 xs) = .ar 1 xs) → (famH b L).map (fun p => f p.2) = L.map (.ar 1)
  | [], _, _, _ => rfl
  | x :: L, b, f, h => by rw [famH, List.map_cons, famH_snd L (b + 1) f h, h, List.map_cons]
theorem famH_ar : ∀ {L : List (List D)} {b : Nat} {p : Nat × Blk}, p ∈ famH b L → (b ≤ p.1 ∧ p.1 < b + L.length) ∧ ∃ xs, p.2 = .ar 1 xs
  | [], _, _, h => by simp [famH] at h
  | x :: L, b, p, h => by
    rw [famH, List.mem_cons] at h
    rcases h with rfl | h
    · exact ⟨⟨by simp, by simp⟩, x, rfl⟩
    · obtain ⟨⟨h1, h2⟩, h3⟩ := famH_ar h
      exact ⟨⟨by omega, by simp; omega⟩, h3⟩

/-! ### One family, with its outer slice and rows beside it -/
/-- The blocks: the outer slice, rows beside it, and the family. -/
def famR (O : Nat) (ars : List (Nat × Blk)) (b : Nat) (L : List (List D)) (r : Nat) : List (Nat × Blk) := ((O, .bx (outY b L r)) :: ars) ++ famH b L
structure FamOk (O : Nat) (ars : List (Nat × Blk)) (b : Nat) (L : List (List D)) : Prop where
  o : 100 ≤ O ∧ O < b
  ar : ∀ q ∈ ars, (100 ≤ q.1 ∧ q.1 < b ∧ q.1 ≠ O) ∧ q.2.isAr = true
  nd : (ars.map Prod.fst).Nodup
  top : b + L.length ≤ 1000000000000
section
variable {O b r base : Nat} {ars : List (Nat × Blk)} {L : List (List D)}
theorem FamOk.nodup (h : FamOk O ars b L) : ((famR O ars b L r).map Prod.fst).Nodup := by
  have h1 := h.o
  rw [famR, List.map_append, List.nodup_append]
  refine ⟨?_, famH_nodup _ _, fun q hq q' hq' => ?_⟩
  · rw [List.map_cons, List.nodup_cons]
    refine ⟨fun hm => ?_, h.nd⟩
    obtain ⟨p, hp, e⟩ := List.mem_map.1 hm
    exact (h.ar p hp).1.2.2 e
  · rw [famH_key] at hq'
    rw [List.map_cons, List.mem_cons] at hq
    rcases hq with rfl | hq
    · omega
    · obtain ⟨p, hp, rfl⟩ := List.mem_map.1 hq
      have := (h.ar p hp).1
      omega
theorem FamOk.rng (h : FamOk O ars b L) : ∀ p ∈ famR O ars b L r, (100 ≤ p.1 ∧ p.1 < 1000000000000) := fun p hp => by
  have h1 := h.o
  have h2 := h.top
  rw [famR, List.mem_append, List.mem_cons] at hp
  rcases hp with (rfl | hp) | hp
  · exact ⟨h1.1, by simp only; omega⟩
  · have := (h.ar p hp).1; omega
  · have := (famH_ar hp).1; omega
theorem famR_len : (famR O ars b L r).length = 1 + ars.length + L.length := by
  simp [famR, famH_len]; omega
theorem FamOk.pos (h : FamOk O ars b L) {i : Nat} (hi : i < L.length) : posOf (b + i) (famR O ars b L r) = 1 + ars.length + i := by
  have h1 := h.o
  rw [famR, posOf_app _ (fun hm => ?_), ← List.append_nil (famH b L), posOf_fam [] hi, List.length_cons]
  · omega
  · rw [List.map_cons, List.mem_cons] at hm
    rcases hm with e | hm
    · simp only at e; omega
    · obtain ⟨p, hp, e⟩ := List.mem_map.1 hm
      have := (h.ar p hp).1; omega
theorem outE_in {res : List (Nat × Blk)} {q : Nat} (h : q ∈ res.map Prod.fst) : outE [] res q = false := by
  simp only [outE, List.contains_nil, Bool.false_or, Bool.not_eq_false', List.contains_iff_mem]; exact h
theorem FamOk.new (h : FamOk O ars b L) : newBs base (famR O ars b L r) = .bx (outY (base + (1 + ars.length)) L r) :: (ars.map Prod.snd ++ L.map (.ar 1)) := by
  have hb : ∀ i, i < L.length → 100 ≤ b + i ∧ b + i < 1000000000000 := fun i hi => by have := h.o; have := h.top; omega
  have e1 : newBs base (famR O ars b L r) = ((O, Blk.bx (outY b L r)) :: ars).map (fun p => (p.2.kp (outE [] (famR O ars b L r))).ren (renOf (fun _ => 0) base (famR O ars b L r))) ++ (famH b L).map (fun p => (p.2.kp (outE [] (famR O ars b L r))).ren (renOf (fun _ => 0) base (famR O ars b L r))) := by
    show (famR O ars b L r).map _ = _
    conv => lhs; rw [famR]
    rw [List.map_append]; rfl
  rw [e1, famH_snd L b (fun x => (x.kp (outE [] (famR O ars b L r))).ren (renOf (fun _ => 0) base (famR O ars b L r))) (fun _ => rfl), List.map_cons]
  rw [List.cons_append]
  congr 1
  · show Blk.bx (AV.renL _ (AV.kpL _ (outY b L r))) = _
    rw [outY_kp fun i hi => outE_in (by rw [famR, List.map_append, List.mem_append]; exact .inr (famH_key.2 (by omega))), outY_ren fun i hi => ?_]
    have := hb i hi
    rw [renOf, if_neg (by omega), h.pos hi]; omega
  · congr 1
    refine List.map_congr_left fun p hp => ?_
    have := (h.ar p hp).2
    rw [isAr_kp this, isAr_ren this]
/-- A slice of the result. -/
theorem sl_back {res : List (Nat × Blk)} {sz id len : Nat} (h : 100 ≤ id ∧ id < 1000000000000) (hm : id ∈ res.map Prod.fst) : ((AV.sl sz id 0 len).kp (outE [] res)).ren (renOf (fun _ => 0) base res) = .sl sz (base + posOf id res) 0 len := by
  have := outE_in hm
  simp [AV.kp, this, AV.ren, renOf, show ¬ (id < 100 ∨ 1000000000000 ≤ id) by omega]
theorem famR_pos0 : posOf O (famR O ars b L r) = 0 := by simp [famR, posOf]
theorem famR_pos1 {E : Nat} {x : Blk} (hn : E ≠ O) : posOf E (famR O ((E, x) :: ars) b L r) = 1 := by simp [famR, posOf, hn]
theorem famR_pos2 {E M : Nat} {x y : Blk} (hn : E ≠ O) (hm : M ≠ O) (he : M ≠ E) : posOf M (famR O ((E, x) :: (M, y) :: ars) b L r) = 2 := by simp [famR, posOf, hm, he]
theorem famR_flat (h1 : ∀ q ∈ ars, q.2.flatR = true) (h2 : ∀ xs ∈ L, xs.all D.flat = true) : (famR O ars b L r).all (fun p => p.2.flatR) = true := by
  rw [List.all_eq_true]
  intro p hp
  rw [famR, List.mem_append, List.mem_cons] at hp
  rcases hp with (rfl | hp) | hp
  · show (outY b L r).all AV.flat1 = true
    exact outY_flat
  · exact h1 p hp
  · have : ∀ {L : List (List D)} {b : Nat}, (∀ xs ∈ L, xs.all D.flat = true) → p ∈ famH b L → p.2.flatR = true := by
      intro L
      induction L with
      | nil => intro b _ h; simp [famH] at h
      | cons x t ih =>
        intro b h hm
        rw [famH, List.mem_cons] at hm
        rcases hm with rfl | hm
        · exact h x (by simp)
        · exact ih (fun xs hx => h xs (by simp [hx])) hm
    exact this h2 hp
end

theorem lookH_memN : ∀ {l : List (Nat × Blk)} {p : Nat × Blk}, (l.map Prod.fst).Nodup → p ∈ l → lookH l p.1 = some p.2
  | [], _, _, h => by simp at h
  | (q, x) :: t, p, hn, h => by
    rw [List.map_cons, List.nodup_cons] at hn
    rw [List.mem_cons] at h
    rcases h with rfl | h
    · simp [lookH]
    · have : ¬ p.1 = q := fun e => hn.1 (by rw [← e]; exact List.mem_map.2 ⟨p, h, rfl⟩)
      rw [lookH, if_neg this, lookH_memN hn.2 h]
theorem keepP_in {res : List (Nat × Blk)} {p : Nat × Blk} (hn : (res.map Prod.fst).Nodup) (h : p ∈ res) : keepP res p.1 = false := by
  simp [keepP, lookH_memN hn h]
theorem FamOk.keep {O b r : Nat} {ars : List (Nat × Blk)} {L : List (List D)} {h : Nat → Option Blk} (hok : FamOk O ars b L) (h0 : h O = some (.bx (outY b L r))) (ha : ∀ q ∈ ars, h q.1 = some q.2) (hf : ∀ i x, L[i]? = some x → h (i + b) = some (.ar 1 x)) (p : Nat × Blk) (hp : p ∈ famR O ars b L r) :
    (100 ≤ p.1 ∧ p.1 < 1000000000000) ∧ h p.1 = some p.2 ∧ p.2.kp (keepP (famR O ars b L r)) = p.2 := by
  refine ⟨hok.rng p hp, ?_⟩
  have hm := hp
  rw [famR, List.mem_append, List.mem_cons] at hp
  rcases hp with (rfl | hp) | hp
  · refine ⟨h0, ?_⟩
    show Blk.bx (AV.kpL _ _) = _
    rw [outY_kp]
    intro i hi
    have : (b + i, Blk.ar 1 L[i]) ∈ famR O ars b L r := by
      rw [famR, List.mem_append]
      refine .inr ?_
      have : ∀ (L : List (List D)) (b i : Nat) (hi : i < L.length), (b + i, Blk.ar 1 L[i]) ∈ famH b L := fun L => by
        induction L with
        | nil => intro b i hi; simp at hi
        | cons x t ih =>
          intro b i hi
          rw [famH, List.mem_cons]
          match i with
          | 0 => exact .inl (by simp)
          | i + 1 => exact .inr (by have := ih (b + 1) i (by simpa using hi); rw [show b + (i + 1) = b + 1 + i by omega]; simpa using this)
      exact this L b i hi
    exact keepP_in hok.nodup this
  · exact ⟨ha p hp, isAr_kp (hok.ar p hp).2 _⟩
  · have hg : ∀ {L : List (List D)} {b : Nat}, p ∈ famH b L → (∀ i x, L[i]? = some x → h (i + b) = some (.ar 1 x)) → h p.1 = some p.2 := fun {L} => by
      induction L with
      | nil => intro b hp; simp [famH] at hp
      | cons x t ih =>
        intro b hp hf
        rw [famH, List.mem_cons] at hp
        rcases hp with rfl | hp
        · have := hf 0 x (by simp)
          simpa using this
        · exact ih hp fun i y hy => by rw [show i + (b + 1) = i + 1 + b by omega]; exact hf (i + 1) y (by simpa using hy)
    obtain ⟨_, xs, e⟩ := famH_ar hp
    refine ⟨hg hp hf, ?_⟩
    rw [e]; rfl

theorem FamOk.keep2 {O b r : Nat} {ars : List (Nat × Blk)} {L : List (List D)} {h : Nat → Option Blk} (hok : FamOk O ars b L) (a : Nat) (x : Blk) (hm : (a, x) ∈ famR O ars b L r) (h0 : h O = some (.bx (outY b L r))) (ha : ∀ q ∈ ars, h q.1 = some q.2) (hf : ∀ i x, L[i]? = some x → h (i + b) = some (.ar 1 x)) :
    (100 ≤ a ∧ a < 1000000000000) ∧ h a = some x ∧ x.kp (keepP (famR O ars b L r)) = x := hok.keep h0 ha hf (a, x) hm
/-- What a family adds to a state. -/
theorem newL_fam_heap {base j : Nat} {o : Blk} {bs : List Blk} {L : List (List D)} : (newL σ base (o :: (bs ++ L.map (.ar 1)))).hp.heap j = if j = base then some o else if base + 1 + bs.length ≤ j ∧ j < base + 1 + bs.length + L.length then (L[j - (base + 1 + bs.length)]?).map (.ar 1) else if base < j ∧ j < base + 1 + bs.length then bs[j - (base + 1)]? else σ.hp.heap j := by
  rw [newL_heap]
  by_cases h0 : j = base
  · subst h0; simp
  · rw [if_neg h0]
    by_cases h1 : base ≤ j
    · rw [if_pos h1, show j - base = (j - (base + 1)) + 1 by omega, List.getElem?_cons_succ]
      rcases Nat.lt_or_ge j (base + 1 + bs.length) with h2 | h2
      · rw [List.getElem?_append_left (by omega), if_neg (by omega), if_pos (by omega), List.getElem?_eq_getElem (by omega)]
      · rw [List.getElem?_append_right (by omega), show j - (base + 1) - bs.length = j - (base + 1 + bs.length) by omega, List.getElem?_map]
        rcases Nat.lt_or_ge j (base + 1 + bs.length + L.length) with h3 | h3
        · rw [if_pos ⟨h2, h3⟩, List.getElem?_eq_getElem (by omega)]; rfl
        · rw [if_neg (by omega), if_neg (by omega), List.getElem?_eq_none (by omega)]; rfl
    · rw [if_neg h1, if_neg (by omega), if_neg (by omega)]

/-- The state behind a call whose result is a family. -/
def famS (σ : AS) (base : Nat) (o : Blk) (bs : List Blk) (L : List (List D)) : AS := newL σ base (o :: (bs ++ L.map (.ar 1)))
theorem FamOk.newS {O b r base : Nat} {ars : List (Nat × Blk)} {L : List (List D)} (h : FamOk O ars b L) : newL σ base (newBs base (famR O ars b L r)) = famS σ base (.bx (outY (base + (1 + ars.length)) L r)) (ars.map Prod.snd) L := by
  rw [h.new]; rfl
theorem famS_sl {base : Nat} {o : Blk} {bs : List Blk} {L : List (List D)} : (famS σ base o bs L).sl = σ.sl := newL_sl _ _ _
theorem famS_heap {base j : Nat} {o : Blk} {bs : List Blk} {L : List (List D)} : (famS σ base o bs L).hp.heap j = if j = base then some o else if base + 1 + bs.length ≤ j ∧ j < base + 1 + bs.length + L.length then (L[j - (base + 1 + bs.length)]?).map (.ar 1) else if base < j ∧ j < base + 1 + bs.length then bs[j - (base + 1)]? else σ.hp.heap j := newL_fam_heap
theorem famS_low {base j : Nat} {o : Blk} {bs : List Blk} {L : List (List D)} (h : j < base) : (famS σ base o bs L).hp.heap j = σ.hp.heap j := by
  rw [famS_heap, if_neg (by omega), if_neg (by omega), if_neg (by omega)]
theorem famS_o {base : Nat} {o : Blk} {bs : List Blk} {L : List (List D)} : (famS σ base o bs L).hp.heap base = some o := by
  rw [famS_heap, if_pos rfl]
theorem famS_1 {base : Nat} {o x : Blk} {bs : List Blk} {L : List (List D)} : (famS σ base o (x :: bs) L).hp.heap (base + 1) = some x := by
  rw [famS_heap, if_neg (by omega), if_neg (by simp only [List.length_cons]; omega), if_pos (by simp only [List.length_cons]; omega)]
  simp
theorem famS_2 {base : Nat} {o x y : Blk} {bs : List Blk} {L : List (List D)} : (famS σ base o (x :: y :: bs) L).hp.heap (base + 2) = some y := by
  rw [famS_heap, if_neg (by omega), if_neg (by simp only [List.length_cons]; omega), if_pos (by simp only [List.length_cons]; omega)]
  simp
theorem famS_at {base i : Nat} {o : Blk} {bs : List Blk} {L : List (List D)} {x : List D} (h : L[i]? = some x) : (famS σ base o bs L).hp.heap (i + (base + 1 + bs.length)) = some (.ar 1 x) := by
  have := (List.getElem?_eq_some_iff.1 h).1
  rw [famS_heap, if_neg (by omega), if_pos (by omega), show i + (base + 1 + bs.length) - (base + 1 + bs.length) = i by omega, h]; rfl
theorem famS_atN {base b i : Nat} {o : Blk} {bs : List Blk} {L : List (List D)} {x : List D} (h : L[i]? = some x) (hb : b = base + 1 + bs.length) : (famS σ base o bs L).hp.heap (i + b) = some (.ar 1 x) := by
  subst hb; exact famS_at h
theorem famS_high {base j : Nat} {o : Blk} {bs : List Blk} {L : List (List D)} (h : base + 1 + bs.length + L.length ≤ j) : (famS σ base o bs L).hp.heap j = σ.hp.heap j := by
  rw [famS_heap, if_neg (by omega), if_neg (by omega), if_neg (by omega)]
theorem famS_used {base j : Nat} {o : Blk} {bs : List Blk} {L : List (List D)} : (famS σ base o bs L).used j = (decide (base ≤ j ∧ j < base + (1 + bs.length + L.length)) || σ.used j) := by
  unfold famS
  rw [newL_used]
  simp only [inNew, List.length_cons, List.length_append, List.length_map]
  rw [show bs.length + L.length + 1 = 1 + bs.length + L.length by omega]

theorem retXP_fam {p : Prop} {x : AV} {R : AV → List (Nat × Blk) → Prop} {O b r : Nat} {ars : List (Nat × Blk)} {L : List (List D)} (hp : p) (hok : FamOk O ars b L) (hR : R x (famR O ars b L r)) (h0 : σ.hp.heap O = some (.bx (outY b L r))) (ha : ∀ q ∈ ars, σ.hp.heap q.1 = some q.2) (hf : ∀ i x, L[i]? = some x → σ.hp.heap (i + b) = some (.ar 1 x))
    (hx : x.kp (keepP (famR O ars b L r)) = x) : retXP σ (p, x) R :=
  ⟨hp, _, hR, fun q hq => hok.keep h0 ha hf q hq, hx⟩
theorem FamOk.k0 {O b r : Nat} {ars : List (Nat × Blk)} {L : List (List D)} (hok : FamOk O ars b L) : keepP (famR O ars b L r) O = false := keepP_in (p := (O, .bx (outY b L r))) hok.nodup (by simp [famR])
theorem FamOk.k1 {O b r : Nat} {ars : List (Nat × Blk)} {L : List (List D)} (hok : FamOk O ars b L) {q : Nat × Blk} (hq : q ∈ ars) : keepP (famR O ars b L r) q.1 = false := keepP_in (p := q) hok.nodup (by simp [famR, hq])

/-! ### A family that begins with nil -/
/-- The outer slice: nil as long as there is nothing in it. -/
def nxA (O : Nat) : Nat → AV
  | 0 => .nl
  | k + 1 => .sl 1 O 0 (k + 1)
def nxH (O b : Nat) (L : List (List D)) (r : Nat) : List (Nat × Blk) := if L.length = 0 then [] else (O, .bx (outY b L r)) :: famH b L
def nxU (O b : Nat) : Nat → List Nat
  | 0 => []
  | n + 1 => O :: famU b (n + 1)
section
variable {O b k : Nat}
theorem nxA_pos (h : 0 < k) : nxA O k = .sl 1 O 0 k := by
  match k, h with
  | k + 1, _ => rfl
theorem nxA_kill {id : Nat} (h : ¬ O = id) : (nxA O k).kill id = nxA O k := by
  match k with
  | 0 => rfl
  | k + 1 => simp [nxA, AV.kill, h]
theorem nxA_ren {g : Nat → Nat} (h : g O = O) : (nxA O k).ren g = nxA O k := by
  match k with
  | 0 => rfl
  | k + 1 => simp [nxA, AV.ren, h]
theorem nxU_in {j : Nat} {l : List Nat} : (nxU O b k ++ l).contains j = (decide (0 < k ∧ (j = O ∨ b ≤ j ∧ j < b + k)) || l.contains j) := by
  match k with
  | 0 => simp [nxU]
  | k + 1 =>
    rw [nxU, List.cons_append, List.contains_cons, List.contains_eq_mem, List.contains_eq_mem, Bool.eq_iff_iff]
    simp [famU, List.mem_range'_1]
    constructor
    · rintro (h | h | h)
      · exact .inl (.inl h)
      · exact .inl (.inr h)
      · exact .inr h
    · rintro ((h | h) | h)
      · exact .inl h
      · exact .inr (.inl h)
      · exact .inr (.inr h)
theorem nxU_mem {j : Nat} : j ∈ nxU O b k ↔ 0 < k ∧ (j = O ∨ b ≤ j ∧ j < b + k) := by
  have := nxU_in (O := O) (b := b) (k := k) (j := j) (l := [])
  rw [List.append_nil, List.contains_eq_mem, Bool.eq_iff_iff] at this
  simpa using this
theorem outU_nx {j : Nat} {l : List Nat} (h : 0 < k) (hj : j = O ∨ b ≤ j ∧ j < b + k) : outU (nxU O b k ++ l) j = false := by
  simp only [outU, nxU_in, Bool.not_eq_false', Bool.or_eq_true, decide_eq_true_eq]
  exact .inr (.inl ⟨h, hj⟩)
theorem nxA_kpU {l : List Nat} : (nxA O k).kp (outU (nxU O b k ++ l)) = nxA O k := by
  match k with
  | 0 => rfl
  | k + 1 =>
    rw [nxA, AV.kp, outU_nx (by omega) (.inl rfl)]; rfl
theorem nxA_one : (nxA O k).cell1 = true := by
  match k with
  | 0 => rfl
  | k + 1 => rfl
theorem nxH_look {r j : Nat} {L : List (List D)} {t : List (Nat × Blk)} (h1 : ¬ j = O) (h2 : j < b) : lookH (nxH O b L r ++ t) j = lookH t j := by
  rw [lookH_app, nxH]
  by_cases h : L.length = 0
  · rw [if_pos h]; rfl
  · rw [if_neg h, lookH, if_neg h1, famH_low h2]
theorem nxH_o {r : Nat} {L : List (List D)} {t : List (Nat × Blk)} (h : 0 < L.length) : lookH (nxH O b L r ++ t) O = some (.bx (outY b L r)) := by
  rw [lookH_app, nxH, if_neg (by omega), lookH, if_pos rfl]
theorem nxH_at {r i : Nat} {L : List (List D)} {x : List D} {t : List (Nat × Blk)} (h : L[i]? = some x) (ho : O < b) : lookH (nxH O b L r ++ t) (i + b) = some (.ar 1 x) := by
  have := (List.getElem?_eq_some_iff.1 h).1
  rw [lookH_app, nxH, if_neg (by omega), lookH, if_neg (by omega), Nat.add_comm, famH_at h]
theorem heapLe_nx {σ : AS} {r : Nat} {l : List Nat} {L : List (List D)} {t : List (Nat × Blk)} (hk : k = L.length) (h0 : 0 < L.length → σ.hp.heap O = some (.bx (outY b L r))) (h1 : ∀ i x, L[i]? = some x → σ.hp.heap (i + b) = some (.ar 1 x)) (ht : heapLe σ (nxU O b k ++ l) t) : heapLe σ (nxU O b k ++ l) (nxH O b L r ++ t) := by
  subst hk
  rw [heapLe_app]
  refine ⟨?_, ht⟩
  unfold nxH
  split
  · trivial
  · rename_i h
    refine ⟨⟨h0 (by omega), ?_, .inr ?_⟩, heapLe_fam _ _ fun i x hx => ⟨?_, .inr ?_⟩⟩
    · show Blk.bx (AV.kpL _ _) = _
      rw [outY_kp fun i hi => outU_nx (by omega) (.inr (by omega))]
    · rw [nxU_in]; simp; omega
    · rw [Nat.add_comm]; exact h1 i x hx
    · have := (List.getElem?_eq_some_iff.1 hx).1
      rw [nxU_in]; simp; omega
theorem nxH_nil {r : Nat} : nxH O b [] r = [] := rfl
theorem outY_killL {r q : Nat} {L : List (List D)} (h : q < b) : AV.killL q (outY b L r) = outY b L r := by
  rw [AV.killL_eq, outY_kill h]
/-- One more row, which had another number. -/
theorem outY_next {L : List (List D)} {r o : Nat} {x : List D} (ho : o < b) : AV.renL (gR o (b + L.length)) (famC b L ++ .sl 1 o 0 x.length :: List.replicate r .unk) = outY b (L ++ [x]) r := by
  rw [renL_app, famC_ren L b b _ fun i hi => by simp [gR]; omega, AV.renL, renL_unk, outY, famC_snoc]
  simp [AV.ren, gR]
end
/-! ### A family that fills a row of nil rows -/
def fillC (b n : Nat) (L : List (List D)) : List AV := famC b L ++ List.replicate (n - L.length) .nl
section
variable {b n : Nat} {L : List (List D)}
theorem fillC_zero : fillC b n [] = List.replicate n .nl := by simp [fillC, famC]
theorem fillC_len (h : L.length ≤ n) : (fillC b n L).length = n := by simp [fillC, famC_len]; omega
theorem fillC_set {x : List D} (h : L.length < n) : (fillC b n L).set L.length (.sl 1 (b + L.length) 0 x.length) = fillC b n (L ++ [x]) := by
  have e : n - L.length = (n - (L ++ [x]).length) + 1 := by simp; omega
  unfold fillC
  rw [List.set_append_right _ _ (by rw [famC_len]; exact Nat.le_refl _), famC_len, Nat.sub_self, e, List.replicate_succ, List.set_cons_zero, famC_snoc, List.append_assoc]
  rfl
theorem fillC_all (h : L.length = n) : fillC b n L = outY b L 0 := by simp [fillC, outY, h]
theorem kpL_nl (p : Nat → Bool) : ∀ r : Nat, AV.kpL p (List.replicate r .nl) = List.replicate r .nl
  | 0 => rfl
  | r + 1 => by rw [List.replicate_succ, AV.kpL, kpL_nl p r]; rfl
theorem fillC_kp {p : Nat → Bool} (h : ∀ i, i < L.length → p (b + i) = false) : AV.kpL p (fillC b n L) = fillC b n L := by
  rw [fillC, kpL_app, famC_kp L b p h, kpL_nl]
theorem famU_mem {j : Nat} : j ∈ famU b n ↔ b ≤ j ∧ j < b + n := by
  simp [famU, List.mem_range'_1]
theorem famH_app_low {j : Nat} {t : List (Nat × Blk)} (h : j < b) : lookH (famH b L ++ t) j = lookH t j := by
  rw [lookH_app, famH_low h]
theorem famH_app_at {i : Nat} {x : List D} {t : List (Nat × Blk)} (h : L[i]? = some x) : lookH (famH b L ++ t) (i + b) = some (.ar 1 x) := by
  rw [lookH_app, Nat.add_comm, famH_at h]
theorem famH_ati {i : Nat} {x : List D} (h : L[i]? = some x) : lookH (famH b L) (i + b) = some (.ar 1 x) := by
  rw [Nat.add_comm, famH_at h]
theorem outU_of {O j : Nat} {l : List Nat} (h : j = O ∨ (b ≤ j ∧ j < b + n) ∨ j ∈ l) : outU (O :: (famU b n ++ l)) j = false := by
  simp only [outU, Bool.not_eq_false', Bool.or_eq_true, List.contains_iff_mem, List.mem_cons, List.mem_append, famU_mem]
  exact .inr h
theorem heapLe_ofam {O : Nat} {l : List Nat} {cs : List AV} {t : List (Nat × Blk)} {σ : AS} (hn : n = L.length) (h0 : σ.hp.heap O = some (.bx cs)) (hk : AV.kpL (outU (O :: (famU b n ++ l))) cs = cs) (h1 : ∀ i x, L[i]? = some x → σ.hp.heap (i + b) = some (.ar 1 x)) (ht : heapLe σ (O :: (famU b n ++ l)) t) : heapLe σ (O :: (famU b n ++ l)) ((O, .bx cs) :: (famH b L ++ t)) := by
  subst hn
  refine ⟨⟨h0, ?_, .inr (by simp)⟩, ?_⟩
  · show Blk.bx (AV.kpL _ _) = _
    rw [hk]
  · rw [heapLe_app]
    refine ⟨heapLe_fam _ _ fun i x hx => ⟨by rw [Nat.add_comm]; exact h1 i x hx, .inr ?_⟩, ht⟩
    have := (List.getElem?_eq_some_iff.1 hx).1
    simp [famU_mem]; omega
theorem outU_of0 {O j : Nat} (h : j = O ∨ (b ≤ j ∧ j < b + n)) : outU (O :: famU b n) j = false := by
  have := outU_of (b := b) (n := n) (O := O) (j := j) (l := []) (by rcases h with h | h; exact .inl h; exact .inr (.inl h))
  rwa [List.append_nil] at this
theorem heapLe_ofam0 {O : Nat} {cs : List AV} {σ : AS} (hn : n = L.length) (h0 : σ.hp.heap O = some (.bx cs)) (hk : AV.kpL (outU (O :: famU b n)) cs = cs) (h1 : ∀ i x, L[i]? = some x → σ.hp.heap (i + b) = some (.ar 1 x)) : heapLe σ (O :: famU b n) ((O, .bx cs) :: famH b L) := by
  have := heapLe_ofam (σ := σ) (l := []) (t := []) hn h0 (by simpa using hk) h1 trivial
  simpa using this
end
attribute [simp] nxA_kill nxA_kpU nxA_one nxU_mem nxH_look AV.back outY_killL famS_sl famS_o famS_1 famS_2 famS_low famS_used famU_mem famH_low famH_app_low
end
end Go.Fw

/- Results that are two families of rows. -/
namespace Go.Fw
open Go

theorem famH_in : ∀ {L : List (List D)} {b i : Nat} (h : i < L.length), (b + i, Blk.ar 1 L[i]) ∈ famH b L
  | [], _, _, h => by simp at h
  | x :: t, b, 0, _ => by simp [famH]
  | x :: t, b, i + 1, h => by
    have := famH_in (L := t) (b := b + 1) (i := i) (by simpa using h)
    rw [famH, List.mem_cons, show b + (i + 1) = b + 1 + i by omega]
    exact .inr (by simpa using this)
theorem famH_heap {h : Nat → Option Blk} : ∀ {L : List (List D)} {b : Nat} {p : Nat × Blk}, p ∈ famH b L → (∀ i x, L[i]? = some x → h (i + b) = some (.ar 1 x)) → h p.1 = some p.2
  | [], _, _, hp, _ => by simp [famH] at hp
  | x :: t, b, p, hp, hf => by
    rw [famH, List.mem_cons] at hp
    rcases hp with rfl | hp
    · have := hf 0 x (by simp)
      simpa using this
    · exact famH_heap hp fun i y hy => by rw [show i + (b + 1) = i + 1 + b by omega]; exact hf (i + 1) y (by simpa using hy)

def fam2R (O1 O2 : Nat) (ars : List (Nat × Blk)) (b1 : Nat) (L1 : List (List D)) (r1 b2 : Nat) (L2 : List (List D)) (r2 : Nat) : List (Nat × Blk) :=
  ((O1, .bx (outY b1 L1 r1)) :: (O2, .bx (outY b2 L2 r2)) :: ars) ++ (famH b1 L1 ++ famH b2 L2)
def OutF (b n q : Nat) : Prop := q < b ∨ b + n ≤ q
structure Fam2Ok (O1 O2 : Nat) (ars : List (Nat × Blk)) (b1 : Nat) (L1 : List (List D)) (b2 : Nat) (L2 : List (List D)) : Prop where
  o1 : 100 ≤ O1 ∧ O1 < 1000000000000 ∧ OutF b1 L1.length O1 ∧ OutF b2 L2.length O1
  o2 : 100 ≤ O2 ∧ O2 < 1000000000000 ∧ OutF b1 L1.length O2 ∧ OutF b2 L2.length O2 ∧ O2 ≠ O1
  ar : ∀ q ∈ ars, (100 ≤ q.1 ∧ q.1 < 1000000000000 ∧ OutF b1 L1.length q.1 ∧ OutF b2 L2.length q.1 ∧ q.1 ≠ O1 ∧ q.1 ≠ O2) ∧ q.2.isAr = true
  nd : (ars.map Prod.fst).Nodup
  t1 : 100 ≤ b1 ∧ b1 + L1.length ≤ 1000000000000
  t2 : 100 ≤ b2 ∧ b2 + L2.length ≤ 1000000000000
  dj : b1 + L1.length ≤ b2 ∨ b2 + L2.length ≤ b1
section
variable {O1 O2 b1 b2 r1 r2 base : Nat} {ars : List (Nat × Blk)} {L1 L2 : List (List D)} {P : Program} {σ : AS}
theorem Fam2Ok.head (h : Fam2Ok O1 O2 ars b1 L1 b2 L2) {q : Nat} (hq : q ∈ ((O1, Blk.bx (outY b1 L1 r1)) :: (O2, Blk.bx (outY b2 L2 r2)) :: ars).map Prod.fst) : 100 ≤ q ∧ q < 1000000000000 ∧ OutF b1 L1.length q ∧ OutF b2 L2.length q := by
  rw [List.map_cons, List.map_cons, List.mem_cons, List.mem_cons] at hq
  rcases hq with rfl | rfl | hq
  · exact h.o1
  · exact ⟨h.o2.1, h.o2.2.1, h.o2.2.2.1, h.o2.2.2.2.1⟩
  · obtain ⟨p, hp, rfl⟩ := List.mem_map.1 hq
    have := (h.ar p hp).1
    exact ⟨this.1, this.2.1, this.2.2.1, this.2.2.2.1⟩
theorem Fam2Ok.nodup (h : Fam2Ok O1 O2 ars b1 L1 b2 L2) : ((fam2R O1 O2 ars b1 L1 r1 b2 L2 r2).map Prod.fst).Nodup := by
  rw [fam2R, List.map_append, List.nodup_append]
  refine ⟨?_, ?_, fun q hq q' hq' => ?_⟩
  · rw [List.map_cons, List.map_cons, List.nodup_cons, List.nodup_cons, List.mem_cons]
    refine ⟨?_, ?_, h.nd⟩
    · rintro (e | hm)
      · exact h.o2.2.2.2.2 e.symm
      · obtain ⟨p, hp, e⟩ := List.mem_map.1 hm
        exact (h.ar p hp).1.2.2.2.2.1 e
    · intro hm
      obtain ⟨p, hp, e⟩ := List.mem_map.1 hm
      exact (h.ar p hp).1.2.2.2.2.2 e
  · rw [List.map_append, List.nodup_append]
    refine ⟨famH_nodup _ _, famH_nodup _ _, fun q hq q' hq' => ?_⟩
    rw [famH_key] at hq hq'
    have := h.dj
    omega
  · have := h.head hq
    unfold OutF at this
    rw [List.map_append, List.mem_append, famH_key, famH_key] at hq'
    omega
theorem Fam2Ok.rng (h : Fam2Ok O1 O2 ars b1 L1 b2 L2) : ∀ p ∈ fam2R O1 O2 ars b1 L1 r1 b2 L2 r2, (100 ≤ p.1 ∧ p.1 < 1000000000000) := fun p hp => by
  have hp' : p.1 ∈ (fam2R O1 O2 ars b1 L1 r1 b2 L2 r2).map Prod.fst := List.mem_map.2 ⟨p, hp, rfl⟩
  rw [fam2R, List.map_append, List.mem_append] at hp'
  have t1 := h.t1
  have t2 := h.t2
  rcases hp' with hp' | hp'
  · have := h.head hp'; omega
  · rw [List.map_append, List.mem_append, famH_key, famH_key] at hp'
    omega
theorem fam2R_len : (fam2R O1 O2 ars b1 L1 r1 b2 L2 r2).length = 2 + ars.length + L1.length + L2.length := by
  simp [fam2R, famH_len]; omega
theorem Fam2Ok.pos1 (h : Fam2Ok O1 O2 ars b1 L1 b2 L2) {i : Nat} (hi : i < L1.length) : posOf (b1 + i) (fam2R O1 O2 ars b1 L1 r1 b2 L2 r2) = 2 + ars.length + i := by
  rw [fam2R, posOf_app _ (fun hm => ?_), posOf_fam _ hi, List.length_cons, List.length_cons]
  · omega
  · have := h.head hm
    unfold OutF at this
    omega
theorem Fam2Ok.pos2 (h : Fam2Ok O1 O2 ars b1 L1 b2 L2) {i : Nat} (hi : i < L2.length) : posOf (b2 + i) (fam2R O1 O2 ars b1 L1 r1 b2 L2 r2) = 2 + ars.length + L1.length + i := by
  have dj := h.dj
  rw [fam2R, posOf_app _ (fun hm => ?_), posOf_app _ (fun hm => ?_), ← List.append_nil (famH b2 L2), posOf_fam _ hi, List.length_cons, List.length_cons, famH_len]
  · omega
  · rw [famH_key] at hm
    omega
  · have := h.head hm
    unfold OutF at this
    omega
theorem fam2R_in1 {i : Nat} (hi : i < L1.length) : b1 + i ∈ (fam2R O1 O2 ars b1 L1 r1 b2 L2 r2).map Prod.fst := by
  rw [fam2R, List.map_append, List.mem_append, List.map_append, List.mem_append, famH_key]
  exact .inr (.inl (by omega))
theorem fam2R_in2 {i : Nat} (hi : i < L2.length) : b2 + i ∈ (fam2R O1 O2 ars b1 L1 r1 b2 L2 r2).map Prod.fst := by
  rw [fam2R, List.map_append, List.mem_append, List.map_append, List.mem_append, famH_key, famH_key]
  exact .inr (.inr (by omega))
theorem Fam2Ok.new (h : Fam2Ok O1 O2 ars b1 L1 b2 L2) : newBs base (fam2R O1 O2 ars b1 L1 r1 b2 L2 r2) = .bx (outY (base + (2 + ars.length)) L1 r1) :: .bx (outY (base + (2 + ars.length) + L1.length) L2 r2) :: (ars.map Prod.snd ++ (L1 ++ L2).map (.ar 1)) := by
  have t1 := h.t1
  have t2 := h.t2
  have hF : ∀ (L : List (List D)) (b : Nat), (famH b L).map (fun p => (p.2.kp (outE [] (fam2R O1 O2 ars b1 L1 r1 b2 L2 r2))).ren (renOf (fun _ => 0) base (fam2R O1 O2 ars b1 L1 r1 b2 L2 r2))) = L.map (.ar 1) := fun L b =>
    famH_snd L b (fun x => (x.kp (outE [] (fam2R O1 O2 ars b1 L1 r1 b2 L2 r2))).ren (renOf (fun _ => 0) base (fam2R O1 O2 ars b1 L1 r1 b2 L2 r2))) (fun _ => rfl)
  have e1 : newBs base (fam2R O1 O2 ars b1 L1 r1 b2 L2 r2) = (((O1, Blk.bx (outY b1 L1 r1)) :: (O2, Blk.bx (outY b2 L2 r2)) :: ars) ++ (famH b1 L1 ++ famH b2 L2)).map (fun p => (p.2.kp (outE [] (fam2R O1 O2 ars b1 L1 r1 b2 L2 r2))).ren (renOf (fun _ => 0) base (fam2R O1 O2 ars b1 L1 r1 b2 L2 r2))) := rfl
  rw [e1, List.map_append, List.map_append, hF, hF, List.map_cons, List.map_cons, List.cons_append, List.cons_append]
  congr 1
  · show Blk.bx (AV.renL _ (AV.kpL _ (outY b1 L1 r1))) = _
    rw [outY_kp fun i hi => outE_in (fam2R_in1 hi), outY_ren fun i hi => ?_]
    rw [renOf, if_neg (by omega), h.pos1 hi]; omega
  congr 1
  · show Blk.bx (AV.renL _ (AV.kpL _ (outY b2 L2 r2))) = _
    rw [outY_kp fun i hi => outE_in (fam2R_in2 hi), outY_ren fun i hi => ?_]
    rw [renOf, if_neg (by omega), h.pos2 hi]; omega
  rw [List.map_append]
  congr 1
  refine List.map_congr_left fun p hp => ?_
  have := (h.ar p hp).2
  rw [isAr_kp this, isAr_ren this]
theorem Fam2Ok.keep {h : Nat → Option Blk} (hok : Fam2Ok O1 O2 ars b1 L1 b2 L2) (h1 : h O1 = some (.bx (outY b1 L1 r1))) (h2 : h O2 = some (.bx (outY b2 L2 r2))) (ha : ∀ q ∈ ars, h q.1 = some q.2) (hf1 : ∀ i x, L1[i]? = some x → h (i + b1) = some (.ar 1 x)) (hf2 : ∀ i x, L2[i]? = some x → h (i + b2) = some (.ar 1 x)) (p : Nat × Blk) (hp : p ∈ fam2R O1 O2 ars b1 L1 r1 b2 L2 r2) :
    (100 ≤ p.1 ∧ p.1 < 1000000000000) ∧ h p.1 = some p.2 ∧ p.2.kp (keepP (fam2R O1 O2 ars b1 L1 r1 b2 L2 r2)) = p.2 := by
  refine ⟨hok.rng p hp, ?_⟩
  have k1 : ∀ i, i < L1.length → keepP (fam2R O1 O2 ars b1 L1 r1 b2 L2 r2) (b1 + i) = false := fun i hi => keepP_in (p := (b1 + i, _)) hok.nodup (by
    rw [fam2R, List.mem_append, List.mem_append]; exact .inr (.inl (famH_in hi)))
  have k2 : ∀ i, i < L2.length → keepP (fam2R O1 O2 ars b1 L1 r1 b2 L2 r2) (b2 + i) = false := fun i hi => keepP_in (p := (b2 + i, _)) hok.nodup (by
    rw [fam2R, List.mem_append, List.mem_append]; exact .inr (.inr (famH_in hi)))
  rw [fam2R, List.mem_append, List.mem_cons, List.mem_cons, List.mem_append] at hp
  rcases hp with (rfl | rfl | hp) | hp | hp
  · exact ⟨h1, by show Blk.bx (AV.kpL _ _) = _; rw [outY_kp k1]⟩
  · exact ⟨h2, by show Blk.bx (AV.kpL _ _) = _; rw [outY_kp k2]⟩
  · exact ⟨ha p hp, isAr_kp (hok.ar p hp).2 _⟩
  · obtain ⟨_, xs, e⟩ := famH_ar hp
    exact ⟨famH_heap hp hf1, by rw [e]; rfl⟩
  · obtain ⟨_, xs, e⟩ := famH_ar hp
    exact ⟨famH_heap hp hf2, by rw [e]; rfl⟩
theorem retXP_fam2 {p : Prop} {x : AV} {R : AV → List (Nat × Blk) → Prop} (hp : p) (hok : Fam2Ok O1 O2 ars b1 L1 b2 L2) (hR : R x (fam2R O1 O2 ars b1 L1 r1 b2 L2 r2)) (h1 : σ.hp.heap O1 = some (.bx (outY b1 L1 r1))) (h2 : σ.hp.heap O2 = some (.bx (outY b2 L2 r2))) (ha : ∀ q ∈ ars, σ.hp.heap q.1 = some q.2) (hf1 : ∀ i x, L1[i]? = some x → σ.hp.heap (i + b1) = some (.ar 1 x)) (hf2 : ∀ i x, L2[i]? = some x → σ.hp.heap (i + b2) = some (.ar 1 x))
    (hx : x.kp (keepP (fam2R O1 O2 ars b1 L1 r1 b2 L2 r2)) = x) : retXP σ (p, x) R :=
  ⟨hp, _, hR, fun q hq => hok.keep h1 h2 ha hf1 hf2 q hq, hx⟩
theorem Fam2Ok.k1 (hok : Fam2Ok O1 O2 ars b1 L1 b2 L2) : keepP (fam2R O1 O2 ars b1 L1 r1 b2 L2 r2) O1 = false := keepP_in (p := (O1, .bx (outY b1 L1 r1))) hok.nodup (by simp [fam2R])
theorem Fam2Ok.k2 (hok : Fam2Ok O1 O2 ars b1 L1 b2 L2) : keepP (fam2R O1 O2 ars b1 L1 r1 b2 L2 r2) O2 = false := keepP_in (p := (O2, .bx (outY b2 L2 r2))) hok.nodup (by simp [fam2R])
theorem Fam2Ok.ka (hok : Fam2Ok O1 O2 ars b1 L1 b2 L2) {q : Nat × Blk} (hq : q ∈ ars) : keepP (fam2R O1 O2 ars b1 L1 r1 b2 L2 r2) q.1 = false := keepP_in (p := q) hok.nodup (by simp [fam2R, hq])
theorem fam2R_flat (h1 : ∀ q ∈ ars, q.2.flatR = true) (h2 : ∀ xs ∈ L1, xs.all D.flat = true) (h3 : ∀ xs ∈ L2, xs.all D.flat = true) : (fam2R O1 O2 ars b1 L1 r1 b2 L2 r2).all (fun p => p.2.flatR) = true := by
  have hF : ∀ {L : List (List D)} {b : Nat} {p : Nat × Blk}, (∀ xs ∈ L, xs.all D.flat = true) → p ∈ famH b L → p.2.flatR = true := by
    intro L
    induction L with
    | nil => intro b p _ h; simp [famH] at h
    | cons x t ih =>
      intro b p h hm
      rw [famH, List.mem_cons] at hm
      rcases hm with rfl | hm
      · exact h x (by simp)
      · exact ih (fun xs hx => h xs (by simp [hx])) hm
  rw [List.all_eq_true]
  intro p hp
  rw [fam2R, List.mem_append, List.mem_cons, List.mem_cons, List.mem_append] at hp
  rcases hp with (rfl | rfl | hp) | hp | hp
  · exact outY_flat
  · exact outY_flat
  · exact h1 p hp
  · exact hF h2 hp
  · exact hF h3 hp

/-- The state behind a call whose result is two families. -/
def fam2S (σ : AS) (base : Nat) (o1 o2 : Blk) (bs : List Blk) (L : List (List D)) : AS := newL σ base (o1 :: o2 :: (bs ++ L.map (.ar 1)))
theorem Fam2Ok.newS (h : Fam2Ok O1 O2 ars b1 L1 b2 L2) : newL σ base (newBs base (fam2R O1 O2 ars b1 L1 r1 b2 L2 r2)) = fam2S σ base (.bx (outY (base + (2 + ars.length)) L1 r1)) (.bx (outY (base + (2 + ars.length) + L1.length) L2 r2)) (ars.map Prod.snd) (L1 ++ L2) := by
  rw [h.new]; rfl
variable {o1 o2 : Blk} {bs : List Blk} {L : List (List D)}
theorem fam2S_sl : (fam2S σ base o1 o2 bs L).sl = σ.sl := newL_sl _ _ _
theorem fam2S_heap {j : Nat} : (fam2S σ base o1 o2 bs L).hp.heap j = match (if base ≤ j then (o1 :: o2 :: (bs ++ L.map (Blk.ar 1)))[j - base]? else none) with | some b => some b | none => σ.hp.heap j := newL_heap _ _ _ _
theorem fam2S_low {j : Nat} (h : j < base) : (fam2S σ base o1 o2 bs L).hp.heap j = σ.hp.heap j := by
  rw [fam2S_heap, if_neg (by omega)]
theorem fam2S_high {j : Nat} (h : base + 2 + bs.length + L.length ≤ j) : (fam2S σ base o1 o2 bs L).hp.heap j = σ.hp.heap j := by
  rw [fam2S_heap, if_pos (by omega), List.getElem?_eq_none (by simp; omega)]
theorem fam2S_o1 : (fam2S σ base o1 o2 bs L).hp.heap base = some o1 := by
  rw [fam2S_heap, if_pos (Nat.le_refl _), Nat.sub_self]; rfl
theorem fam2S_o2 : (fam2S σ base o1 o2 bs L).hp.heap (base + 1) = some o2 := by
  rw [fam2S_heap, if_pos (by omega), Nat.add_sub_cancel_left]; rfl
theorem fam2S_b {x : Blk} : (fam2S σ base o1 o2 (x :: bs) L).hp.heap (base + 2) = some x := by
  rw [fam2S_heap, if_pos (by omega), Nat.add_sub_cancel_left]; rfl
theorem fam2S_at {i b : Nat} {x : List D} (h : L[i]? = some x) (hb : b = base + 2 + bs.length) : (fam2S σ base o1 o2 bs L).hp.heap (i + b) = some (.ar 1 x) := by
  subst hb
  rw [fam2S_heap, if_pos (by omega), show i + (base + 2 + bs.length) - base = (bs.length + i) + 1 + 1 by omega, List.getElem?_cons_succ, List.getElem?_cons_succ, List.getElem?_append_right (by omega), show bs.length + i - bs.length = i by omega, List.getElem?_map, h]; rfl
theorem fam2S_at1 {i b : Nat} {x : List D} (h : L1[i]? = some x) (hb : b = base + 2 + bs.length) : (fam2S σ base o1 o2 bs (L1 ++ L2)).hp.heap (i + b) = some (.ar 1 x) :=
  fam2S_at (by rw [List.getElem?_append_left (List.getElem?_eq_some_iff.1 h).1, h]) hb
theorem fam2S_at2 {i b : Nat} {x : List D} (h : L2[i]? = some x) (hb : b = base + 2 + bs.length + L1.length) : (fam2S σ base o1 o2 bs (L1 ++ L2)).hp.heap (i + b) = some (.ar 1 x) := by
  have := fam2S_at (σ := σ) (base := base) (o1 := o1) (o2 := o2) (bs := bs) (L := L1 ++ L2) (i := L1.length + i) (x := x) (by rw [List.getElem?_append_right (by omega), Nat.add_sub_cancel_left, h]) rfl
  rw [show i + b = L1.length + i + (base + 2 + bs.length) by omega]
  exact this
theorem fam2S_used {j : Nat} : (fam2S σ base o1 o2 bs L).used j = (decide (base ≤ j ∧ j < base + (2 + bs.length + L.length)) || σ.used j) := by
  unfold fam2S
  rw [newL_used]
  simp only [inNew, List.length_cons, List.length_append, List.length_map]
  rw [show bs.length + L.length + 1 + 1 = 2 + bs.length + L.length by omega]
attribute [simp] fam2S_sl fam2S_o1 fam2S_o2 fam2S_b fam2S_low fam2S_used
end
end Go.Fw
