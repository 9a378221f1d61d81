/- Rows of rows: results that are, and calls that are handed them to be written. -/
import Derived.Test.YtafegamilfnmcaaFwb
set_option linter.unusedSimpArgs false
set_option linter.unusedVariables false
namespace Go.Fw
open Go

section
variable {P : Program} {fz : List Nat} {σ : AS} {Q : Ex → AS → Prop} {K : AS → Prop}

theorem AS.same {a b : AS} (h1 : a.sl = b.sl) (h2 : a.hp.heap = b.hp.heap) (h3 : a.hp.lock = b.hp.lock) (h4 : a.used = b.used) : a = b := by
  obtain ⟨s, ⟨h, l⟩, u⟩ := a
  obtain ⟨s', ⟨h', l'⟩, u'⟩ := b
  simp only at h1 h2 h3 h4
  subst h1 h2 h3 h4
  rfl

/-- New blocks, one after another. -/
def newL (σ : AS) (base : Nat) : List Blk → AS
  | [] => σ
  | b :: r => newL (σ.new base b) (base + 1) r
theorem newL_sl : ∀ (bs : List Blk) (σ : AS) (base : Nat), (newL σ base bs).sl = σ.sl
  | [], _, _ => rfl
  | b :: r, σ, base => newL_sl r (σ.new base b) (base + 1)
theorem newL_lock : ∀ (bs : List Blk) (σ : AS) (base : Nat), (newL σ base bs).hp.lock = σ.hp.lock
  | [], _, _ => rfl
  | b :: r, σ, base => newL_lock r (σ.new base b) (base + 1)
theorem newL_heap : ∀ (bs : List Blk) (σ : AS) (base j : Nat), (newL σ base bs).hp.heap j = match (if base ≤ j then bs[j - base]? else none) with | some b => some b | none => σ.hp.heap j
  | [], σ, base, j => by
    have : (if base ≤ j then ([] : List Blk)[j - base]? else none) = none := by split <;> simp
    rw [this]; rfl
  | b :: r, σ, base, j => by
    rw [newL, newL_heap r (σ.new base b) (base + 1) j]
    rcases Nat.lt_trichotomy j base with h | h | h
    · rw [if_neg (by omega), if_neg (by omega)]
      simp only [AS.new, HP.set, upd, if_neg (show ¬ j = base by omega)]
    · subst h
      rw [if_neg (by omega), if_pos (Nat.le_refl _), Nat.sub_self]
      simp only [AS.new, HP.set, upd, if_true, List.getElem?_cons_zero]
    · rw [if_pos (by omega), if_pos (by omega), show j - base = (j - (base + 1)) + 1 by omega, List.getElem?_cons_succ]
      simp only [AS.new, HP.set, upd, if_neg (show ¬ j = base by omega)]
theorem newL_used : ∀ (bs : List Blk) (σ : AS) (base j : Nat), (newL σ base bs).used j = (inNew base bs.length j || σ.used j)
  | [], σ, base, j => by
    have : inNew base ([] : List Blk).length j = false := by simp [inNew]
    rw [this]; rfl
  | b :: r, σ, base, j => by
    rw [newL, newL_used r (σ.new base b) (base + 1) j]
    simp only [AS.new, upd, inNew, List.length_cons]
    by_cases h : j = base
    · subst h; simp
    · rw [if_neg h]
      congr 1
      simp only [decide_eq_decide]
      omega

theorem posOf_at : ∀ (pre : List (Nat × Blk)) {p : Nat × Blk} {r : List (Nat × Blk)}, p.1 ∉ pre.map Prod.fst → posOf p.1 (pre ++ p :: r) = pre.length
  | [], p, r, _ => by simp [posOf]
  | q :: s, p, r, h => by
    simp only [List.map_cons, List.mem_cons, not_or] at h
    obtain ⟨k, b⟩ := q
    simp only [List.cons_append, posOf, if_neg h.1, posOf_at s h.2, List.length_cons]
theorem look_new {B : Nat × Blk → Blk} {base j : Nat} : ∀ (r pre : List (Nat × Blk)), ((pre ++ r).map Prod.fst).Nodup → lookH (r.map fun p => (base + posOf p.1 (pre ++ r), B p)) j = if base + pre.length ≤ j then (r.map B)[j - (base + pre.length)]? else none
  | [], pre, _ => by simp [lookH]
  | p :: r, pre, h => by
    have hp : p.1 ∉ pre.map Prod.fst := by
      rw [List.map_append, List.map_cons, List.nodup_append] at h
      intro hm
      exact h.2.2 p.1 hm p.1 (by simp) rfl
    have ih := look_new (B := B) (base := base) (j := j) r (pre ++ [p]) (by simpa using h)
    simp only [List.append_assoc, List.singleton_append, List.length_append, List.length_singleton] at ih
    rw [List.map_cons, lookH, posOf_at pre hp, ih, List.map_cons]
    rcases Nat.lt_trichotomy j (base + pre.length) with h1 | h1 | h1
    · rw [if_neg (by omega), if_neg (by omega), if_neg (by omega)]
    · rw [if_pos h1, if_pos (by omega), h1, Nat.sub_self]; rfl
    · rw [if_neg (by omega), if_pos (by omega), if_pos (by omega), show j - (base + pre.length) = (j - (base + (pre.length + 1))) + 1 by omega, List.getElem?_cons_succ]

/-- The new blocks in the caller's numbers. -/
def newBs (base : Nat) (res : List (Nat × Blk)) : List Blk := res.map fun p => (p.2.kp (outE [] res)).ren (renOf (fun _ => 0) base res)
theorem after_newL {base : Nat} {l : List Nat} {res : List (Nat × Blk)} (hnd : (res.map Prod.fst).Nodup) (h100 : ∀ p ∈ res, 100 ≤ p.1) : σ.after (fun _ => 0) base false l [] [] res = newL σ base (newBs base res) := by
  have hE : resE (fun _ => 0) base [] [] res = res.map fun p => (base + posOf p.1 ([] ++ res), (p.2.kp (outE [] res)).ren (renOf (fun _ => 0) base res)) := by
    simp only [resE, List.zip_nil_left, List.nil_append]
    refine List.map_congr_left fun p hp => ?_
    have := h100 p hp
    simp only [renOf, if_neg (show ¬ p.1 < 100 by omega)]
  refine AS.same (by rw [newL_sl]; rfl) ?_ (by rw [newL_lock]; rfl) ?_
  · funext j
    rw [newL_heap]
    show (match lookH (resE (fun _ => 0) base [] [] res) j with | some b => some b | none => σ.hp.heap j) = _
    rw [hE, look_new (B := fun p => (p.2.kp (outE [] res)).ren (renOf (fun _ => 0) base res)) (base := base) (j := j) res [] (by simpa using hnd)]
    rfl
  · funext j
    rw [newL_used]
    show (inNew base res.length j || σ.used j) = _
    simp [newBs]

/-! ### Results -/
def retXP (σ : AS) (q : PA) (R : AV → List (Nat × Blk) → Prop) : Prop :=
  q.1 ∧ ∃ res, R q.2 res ∧ (∀ p ∈ res, 100 ≤ p.1 ∧ σ.hp.heap p.1 = some p.2 ∧ p.2.kp (keepP res) = p.2) ∧ q.2.kp (keepP res) = q.2
def retX (P : Program) (rs : List ResultVar) (R : AV → List (Nat × Blk) → Prop) : Ex → AS → Prop
  | .exit _, _ => False
  | _, σ => retXP σ (resAV P σ rs) R
theorem retX_r {rs : List ResultVar} {R : AV → List (Nat × Blk) → Prop} : retX P rs R .ret σ = retXP σ (resAV P σ rs) R := rfl
theorem retX_n {rs : List ResultVar} {R : AV → List (Nat × Blk) → Prop} : retX P rs R .normal σ = retXP σ (resAV P σ rs) R := rfl
theorem retXP_is {p : Prop} {x : AV} {R : AV → List (Nat × Blk) → Prop} : retXP σ (p, x) R = (p ∧ ∃ res, R x res ∧ (∀ p ∈ res, 100 ≤ p.1 ∧ σ.hp.heap p.1 = some p.2 ∧ p.2.kp (keepP res) = p.2) ∧ x.kp (keepP res) = x) := rfl

/-- A function whose result lies in new rows, rows of rows among them. -/
theorem gcalls_intro {f : FuncId} {fn : Func} {code : Code} {n : Nat} {rs : List ResultVar} (hm : P.follows .mixedOrders = true) (hf : P.funcs[f]? = some fn) (hb : fn.body = some code) (hn : fn.ntmps = n) (hr : fn.results.toList = rs)
    (fz : List Nat) (hst : slotsOk n code = true) {args : List AV} {R : AV → List (Nat × Blk) → Prop}
    (hargs : args.length ≤ n) (hv : VC P fz code (entryS args []) (retX P rs R)) : FCalls P f args R := by
  subst hn; subst hr
  refine acalls_of_vcQ hm hf hb fz hst hargs (Q := retX P fn.results.toList R) (fun ex σ h => ?_) hv
  have key : retXP σ (resAV P σ fn.results.toList) R → (resAV P σ fn.results.toList).1 ∧ RetVC P [] σ (resAV P σ fn.results.toList).2 fun x _ res => R x res := fun h => by
    obtain ⟨h1, res, h2, h3, h4⟩ := h
    refine ⟨h1, .keep [] res rfl (fun p hp => (h3 p hp).1) (fun q hq => ?_) (by simpa using h4) h2⟩
    simp only [List.zip_nil_left, List.nil_append] at hq ⊢
    exact ⟨(h3 q hq).2.1, (h3 q hq).2.2⟩
  cases ex with
  | exit i => exact h
  | normal => exact key h
  | ret => exact key h

theorem CallVC.freshG {f : FuncId} {as args args' : List AV} {p : Prop} {R : AV → List (Nat × Blk) → Prop} {K : AV → AS → Prop} (base : Nat) (hc : FCalls P f args R) (hv : viewL P σ.hp as = some (p, args', [])) (he : args' = args) (hp : p) (hb : 100 ≤ base)
    (hk : ∀ x res, R x res → ((res.map Prod.fst).Nodup ∧ (∀ p ∈ res, 100 ≤ p.1) ∧ (∀ j, j < res.length → σ.used (base + j) = false)) ∧ K (x.back (fun _ => 0) base [] res) (newL σ base (newBs base res))) : CallVC P f as σ K :=
  .freshF base false hc hv he hp hb fun x res h => by
    obtain ⟨⟨h1, h2, h3⟩, h4⟩ := hk x res h
    exact ⟨⟨h1, h3, .inr (.inl rfl)⟩, by rw [after_newL h1 h2]; exact h4⟩

/-! ### Rows of rows that are handed over to be written -/

def setAll (hp : HP) : List (Nat × Blk) → HP
  | [] => hp
  | (k, b) :: r => (setAll hp r).set k b
theorem setL_all (hp : HP) : ∀ E, setL hp E = setAll hp E
  | [] => rfl
  | (k, b) :: r => by
    rw [setAll, ← setL_all hp r]
    simp only [setL, HP.set]
    congr 1
    funext j
    simp only [lookH, upd]
    by_cases h : j = k <;> simp [h]

def MCalls (P : Program) (f : FuncId) (args : List AV) (hs : List (Nat × Blk)) (R : D → List Blk → Prop) : Prop := ACalls P f args hs fun x bs res => (∃ r, x = .d r ∧ R r bs) ∧ res = []
def retMP (keys : List Nat) (σ : AS) (q : PA) (R : D → List Blk → Prop) : Prop :=
  q.1 ∧ ∃ r bs, q.2 = .d r ∧ R r bs ∧ keys.map σ.hp.heap = bs.map some ∧ ∀ b ∈ bs, b.kp (keepP (keys.zip bs)) = b
def retM (P : Program) (keys : List Nat) (rs : List ResultVar) (R : D → List Blk → Prop) : Ex → AS → Prop
  | .exit _, _ => False
  | _, σ => retMP keys σ (resAV P σ rs) R
theorem retM_r {keys : List Nat} {rs : List ResultVar} {R : D → List Blk → Prop} : retM P keys rs R .ret σ = retMP keys σ (resAV P σ rs) R := rfl
theorem retM_n {keys : List Nat} {rs : List ResultVar} {R : D → List Blk → Prop} : retM P keys rs R .normal σ = retMP keys σ (resAV P σ rs) R := rfl
theorem retMP_is {keys : List Nat} {p : Prop} {x : AV} {R : D → List Blk → Prop} : retMP keys σ (p, x) R = (p ∧ ∃ r bs, x = .d r ∧ R r bs ∧ keys.map σ.hp.heap = bs.map some ∧ ∀ b ∈ bs, b.kp (keepP (keys.zip bs)) = b) := rfl

theorem mcalls_intro {f : FuncId} {fn : Func} {code : Code} {n : Nat} {rs : List ResultVar} (hm : P.follows .mixedOrders = true) (hf : P.funcs[f]? = some fn) (hb : fn.body = some code) (hn : fn.ntmps = n) (hr : fn.results.toList = rs)
    (fz : List Nat) (hst : slotsOk n code = true) {args : List AV} {hs : List (Nat × Blk)} {R : D → List Blk → Prop}
    (hargs : args.length ≤ n) (hv : VC P fz code (entryS args hs) (retM P (hs.map Prod.fst) rs R)) : MCalls P f args hs R := by
  subst hn; subst hr
  refine acalls_of_vcQ hm hf hb fz hst hargs (Q := retM P (hs.map Prod.fst) fn.results.toList R) (fun ex σ h => ?_) hv
  have key : retMP (hs.map Prod.fst) σ (resAV P σ fn.results.toList) R → (resAV P σ fn.results.toList).1 ∧ RetVC P (hs.map Prod.fst) σ (resAV P σ fn.results.toList).2 fun x bs res => (∃ r, x = .d r ∧ R r bs) ∧ res = [] := fun h => by
    obtain ⟨h1, r, bs, h2, h3, h4, h5⟩ := h
    have hl : bs.length = (hs.map Prod.fst).length := by have := congrArg List.length h4; simpa using this.symm
    refine ⟨h1, .keep bs [] hl (by simp) (fun q hq => ?_) (by rw [h2]; rfl) ⟨⟨r, h2, h3⟩, rfl⟩⟩
    rw [List.append_nil] at hq ⊢
    obtain ⟨i, hi, he⟩ := List.mem_iff_getElem.1 hq
    have hi1 : i < (hs.map Prod.fst).length := by simp at hi ⊢; omega
    have hi2 : i < bs.length := by omega
    have e : q = ((hs.map Prod.fst)[i], bs[i]) := by rw [← he]; simp
    subst e
    have := congrArg (fun l => l[i]?) h4
    simp only [List.getElem?_map, List.getElem?_eq_getElem hi2, Option.map_some] at this
    rw [List.getElem?_eq_getElem (by simpa using hi1)] at this
    exact ⟨by simpa using this, h5 _ (List.getElem_mem hi2)⟩
  cases ex with
  | exit i => exact h
  | normal => exact key h
  | ret => exact key h

theorem CallVC.lendM {f : FuncId} {as args : List AV} {hs : List (Nat × Blk)} {R : D → List Blk → Prop} {K : AV → AS → Prop} (g : Nat → Nat) (hc : MCalls P f args hs R) (has : as = args.map (AV.ren g)) (hg0 : ∀ q, q ∉ hs.map Prod.fst → g q = 0)
    (hhs : ∀ q blk, (q, blk) ∈ hs → (0 < q ∧ q < 100) ∧ σ.hp.heap (g q) = some (blk.ren g)) (hnd : (hs.map Prod.fst).Nodup) (hginj : ∀ q q', q ∈ hs.map Prod.fst → q' ∈ hs.map Prod.fst → g q = g q' → q = q')
    (hk : ∀ r bs, bs.length = hs.length → R r bs → K (.d r) (σ.withHp (setAll σ.hp (resE g 100 (hs.map Prod.fst) bs [])))) : CallVC P f as σ K := by
  intro c ρ w vals loc hr
  subst has
  refine (hr.call (args := args) (hs := hs) [] g 100 (Nat.le_refl _) (by simp) (fun i x y v ha hb hrr => ?_) hg0 (fun q blk hq => ?_) hnd hginj hc).mono fun e w' ⟨v, x, bs, res, he, hkk, hbl, hfin⟩ => ?_
  · have : y = x.ren g := by
      rw [List.getElem?_map, ha] at hb; simpa using hb.symm
    subst this
    exact hrr.unren g x rfl
  · obtain ⟨h1, h3⟩ := hhs q blk hq
    exact ⟨h1, by simp, h3⟩
  · obtain ⟨⟨r, rfl, hR⟩, rfl⟩ := hkk
    obtain ⟨loc', hr'⟩ := hfin ⟨by simp, by simp⟩ false (.inr (.inl rfl))
    refine ⟨v, _, _, loc', he, hk r bs hbl hR, ?_⟩
    have e1 : (AV.d r).back g 100 (hs.map Prod.fst) [] = .d r := rfl
    have e2 : σ.after g 100 false [] (hs.map Prod.fst) bs [] = σ.withHp (setAll σ.hp (resE g 100 (hs.map Prod.fst) bs [])) := by
      refine AS.same rfl ?_ ?_ ?_
      · rw [← setL_all]; rfl
      · rw [← setL_all]; rfl
      · funext j
        show (inNew 100 ([] : List (Nat × Blk)).length j || σ.used j) = σ.used j
        have : inNew 100 ([] : List (Nat × Blk)).length j = false := by simp [inNew]
        rw [this, Bool.false_or]
    rw [← e1, ← e2]
    exact hr'

attribute [simp] retX_r retX_n retXP_is retM_r retM_n retMP_is
end
end Go.Fw
