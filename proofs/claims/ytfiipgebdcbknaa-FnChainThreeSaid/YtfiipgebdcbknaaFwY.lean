/- Calls whose looked-at arguments are written otherwise. -/
import Derived.Test.YtfiipgebdcbknaaFwX
set_option linter.unusedSimpArgs false
set_option linter.unusedVariables false
namespace Go.Fw
open Go

section
variable {P : Program} {fz : List Nat} {σ : AS} {Q : Ex → AS → Prop} {K : AS → Prop}

theorem CallVC.ddropE {f : FuncId} {as args args' : List AV} {p : Prop} {l : List Nat} {R : D → Prop} {K : AV → AS → Prop} (hc : DCalls P f args R) (hv : viewL P σ.hp as = some (p, args', l)) (he : args' = args) (hp : p)
    (hk : ∀ r, R r → K (.d r) (σ.withHp (σ.hp.dropL l))) : CallVC P f as σ K := .ddrop hc (he ▸ hv) hp hk
theorem CallVC.tdropE {f : FuncId} {as args args' : List AV} {p : Prop} {l : List Nat} {R : List D → Prop} {K : AV → AS → Prop} (hc : TCalls P f args R) (hv : viewL P σ.hp as = some (p, args', l)) (he : args' = args) (hp : p)
    (hk : ∀ r, R r → K (.tp (r.map .d)) (σ.withHp (σ.hp.dropL l))) : CallVC P f as σ K := .tdrop hc (he ▸ hv) hp hk
theorem CallVC.ddatE {f : FuncId} {xs ys ys' : List AV} {p : Prop} {R : D → Prop} {K : AV → AS → Prop} (hc : DCalls P f ys R) (hv : viewL P σ.hp xs = some (p, ys', [])) (he : ys' = ys) (hp : p) (hk : ∀ r, R r → K (.d r) σ) : CallVC P f xs σ K :=
  .ddat hc (he ▸ hv) hp hk

/-! ### New rows that are handed back as they lie; rows that are handed over to be written -/

def Blk.isAr : Blk → Bool
  | .ar _ _ => true
  | _ => false
theorem isAr_kp {b : Blk} (h : b.isAr = true) (p : Nat → Bool) : b.kp p = b := by cases b <;> simp [Blk.isAr] at h; rfl
theorem isAr_ren {b : Blk} (h : b.isAr = true) (g : Nat → Nat) : b.ren g = b := by cases b <;> simp [Blk.isAr] at h; rfl

/-- A function whose result lies in new rows. -/
def FCalls (P : Program) (f : FuncId) (args : List AV) (R : AV → List (Nat × Blk) → Prop) : Prop := ACalls P f args [] fun x _ res => R x res
def retGP (σ : AS) (q : PA) (R : AV → List (Nat × Blk) → Prop) : Prop :=
  q.1 ∧ ∃ res, R q.2 res ∧ (∀ p ∈ res, 100 ≤ p.1 ∧ σ.hp.heap p.1 = some p.2 ∧ p.2.isAr = true) ∧ q.2.kp (keepP res) = q.2
def retG (P : Program) (rs : List ResultVar) (R : AV → List (Nat × Blk) → Prop) : Ex → AS → Prop
  | .exit _, _ => False
  | _, σ => retGP σ (resAV P σ rs) R
theorem retG_r {rs : List ResultVar} {R : AV → List (Nat × Blk) → Prop} : retG P rs R .ret σ = retGP σ (resAV P σ rs) R := rfl
theorem retG_n {rs : List ResultVar} {R : AV → List (Nat × Blk) → Prop} : retG P rs R .normal σ = retGP σ (resAV P σ rs) R := rfl
theorem retGP_is {p : Prop} {x : AV} {R : AV → List (Nat × Blk) → Prop} : retGP σ (p, x) R = (p ∧ ∃ res, R x res ∧ (∀ p ∈ res, 100 ≤ p.1 ∧ σ.hp.heap p.1 = some p.2 ∧ p.2.isAr = true) ∧ x.kp (keepP res) = x) := rfl

theorem fcalls_intro {f : FuncId} {fn : Func} {code : Code} {n : Nat} {rs : List ResultVar} (hm : P.follows .mixedOrders = true) (hf : P.funcs[f]? = some fn) (hb : fn.body = some code) (hn : fn.ntmps = n) (hr : fn.results.toList = rs)
    (fz : List Nat) (hst : slotsOk n code = true) {args : List AV} {R : AV → List (Nat × Blk) → Prop}
    (hargs : args.length ≤ n) (hv : VC P fz code (entryS args []) (retG P rs R)) : FCalls P f args R := by
  subst hn; subst hr
  refine acalls_of_vcQ hm hf hb fz hst hargs (Q := retG P fn.results.toList R) (fun ex σ h => ?_) hv
  have key : retGP σ (resAV P σ fn.results.toList) R → (resAV P σ fn.results.toList).1 ∧ RetVC P [] σ (resAV P σ fn.results.toList).2 fun x _ res => R x res := fun h => by
    obtain ⟨h1, res, h2, h3, h4⟩ := h
    refine ⟨h1, .keep [] res rfl (fun p hp => (h3 p hp).1) (fun q hq => ?_) (by simpa using h4) h2⟩
    simp only [List.zip_nil_left, List.nil_append] at hq
    exact ⟨(h3 q hq).2.1, isAr_kp (h3 q hq).2.2 _⟩
  cases ex with
  | exit i => exact h
  | normal => exact key h
  | ret => exact key h

theorem CallVC.freshF {f : FuncId} {as args args' : List AV} {p : Prop} {l : List Nat} {R : AV → List (Nat × Blk) → Prop} {K : AV → AS → Prop} (base : Nat) (dr : Bool) (hc : FCalls P f args R) (hv : viewL P σ.hp as = some (p, args', l)) (he : args' = args) (hp : p) (hb : 100 ≤ base)
    (hk : ∀ x res, R x res → ((res.map Prod.fst).Nodup ∧ (∀ j, j < res.length → σ.used (base + j) = false) ∧ (dr = true ∨ l = [] ∨ (x.flatR = true ∧ res.all (fun p => p.2.flatR) = true))) ∧ K (x.back (fun _ => 0) base [] res) (σ.after (fun _ => 0) base dr l [] [] res)) : CallVC P f as σ K := by
  subst he
  refine .view hv hp base dr (ACalls.mono hc fun x _ res h => ?_) hb
  obtain ⟨⟨h1, h2, h3⟩, h4⟩ := hk x res h
  exact ⟨⟨h1, hb, h2, h3⟩, h4⟩

theorem after_new1 {base i : Nat} {b : Blk} (hi : 100 ≤ i) (hb : b.isAr = true) {l : List Nat} : σ.after (fun _ => 0) base false l [] [] [(i, b)] = σ.new base b := by
  have hi' : ¬ i < 100 := by omega
  simp only [AS.after, AS.new, setL, resE, Bool.false_eq_true, if_false]
  congr 1
  · simp only [HP.set]
    congr 1
    funext j
    simp only [List.zip_nil_left, List.nil_append, List.map_cons, List.map_nil, lookH, renOf, posOf, upd, isAr_kp hb, isAr_ren hb, hi', if_false, if_true, Nat.add_zero]
    by_cases hj : j = base
    · simp [hj]
    · simp [hj]
  · funext j
    simp only [inNew, upd, List.length_cons, List.length_nil]
    by_cases hj : j = base
    · simp [hj]
    · have : ¬ (base ≤ j ∧ j < base + (0 + 1)) := by omega
      simp [hj, this]
theorem after_new3 {base i1 i2 i3 : Nat} {b1 b2 b3 : Blk} (h1 : 100 ≤ i1) (h2 : 100 ≤ i2) (h3 : 100 ≤ i3) (n12 : i1 ≠ i2) (n13 : i1 ≠ i3) (n23 : i2 ≠ i3) (c1 : b1.isAr = true) (c2 : b2.isAr = true) (c3 : b3.isAr = true) {l : List Nat} :
    σ.after (fun _ => 0) base false l [] [] [(i1, b1), (i2, b2), (i3, b3)] = ((σ.new base b1).new (base + 1) b2).new (base + 2) b3 := by
  have e1 : ¬ i1 < 100 := by omega
  have e2 : ¬ i2 < 100 := by omega
  have e3 : ¬ i3 < 100 := by omega
  simp only [AS.after, AS.new, setL, resE, Bool.false_eq_true, if_false]
  congr 1
  · simp only [HP.set]
    congr 1
    funext j
    simp only [List.zip_nil_left, List.nil_append, List.map_cons, List.map_nil, lookH, renOf, posOf, upd, isAr_kp c1, isAr_ren c1, isAr_kp c2, isAr_ren c2, isAr_kp c3, isAr_ren c3, e1, e2, e3, n12.symm, n13.symm, n23.symm, if_false, if_true, Nat.add_zero]
    by_cases j1 : j = base
    · simp [j1]
    · by_cases j2 : j = base + 1
      · simp [j2]
      · by_cases j3 : j = base + 2
        · simp [j3]
        · simp [j1, j2, j3]
  · funext j
    simp only [inNew, upd, List.length_cons, List.length_nil]
    by_cases j1 : j = base
    · simp [j1]
    · by_cases j2 : j = base + 1
      · simp [j2]
      · by_cases j3 : j = base + 2
        · simp [j3]
        · have : ¬ (base ≤ j ∧ j < base + (0 + 1 + 1 + 1)) := by omega
          simp [j1, j2, j3, this]

/-- A function that is handed rows to write, and answers with a datum. -/
def LCalls (P : Program) (f : FuncId) (args : List AV) (hs : List (Nat × Blk)) (R : D → List Blk → Prop) : Prop := ACalls P f args hs fun x bs res => (∃ r, x = .d r ∧ R r bs ∧ ∀ b ∈ bs, b.isAr = true) ∧ res = []
def retLP (keys : List Nat) (σ : AS) (q : PA) (R : D → List Blk → Prop) : Prop :=
  q.1 ∧ ∃ r bs, q.2 = .d r ∧ R r bs ∧ keys.map σ.hp.heap = bs.map some ∧ ∀ b ∈ bs, b.isAr = true
def retL (P : Program) (keys : List Nat) (rs : List ResultVar) (R : D → List Blk → Prop) : Ex → AS → Prop
  | .exit _, _ => False
  | _, σ => retLP keys σ (resAV P σ rs) R
theorem retL_r {keys : List Nat} {rs : List ResultVar} {R : D → List Blk → Prop} : retL P keys rs R .ret σ = retLP keys σ (resAV P σ rs) R := rfl
theorem retL_n {keys : List Nat} {rs : List ResultVar} {R : D → List Blk → Prop} : retL P keys rs R .normal σ = retLP keys σ (resAV P σ rs) R := rfl
theorem retLP_is {keys : List Nat} {p : Prop} {x : AV} {R : D → List Blk → Prop} : retLP keys σ (p, x) R = (p ∧ ∃ r bs, x = .d r ∧ R r bs ∧ keys.map σ.hp.heap = bs.map some ∧ ∀ b ∈ bs, b.isAr = true) := rfl

theorem lcalls_intro {f : FuncId} {fn : Func} {code : Code} {n : Nat} {rs : List ResultVar} (hm : P.follows .mixedOrders = true) (hf : P.funcs[f]? = some fn) (hb : fn.body = some code) (hn : fn.ntmps = n) (hr : fn.results.toList = rs)
    (fz : List Nat) (hst : slotsOk n code = true) {args : List AV} {hs : List (Nat × Blk)} {R : D → List Blk → Prop}
    (hargs : args.length ≤ n) (hv : VC P fz code (entryS args hs) (retL P (hs.map Prod.fst) rs R)) : LCalls P f args hs R := by
  subst hn; subst hr
  refine acalls_of_vcQ hm hf hb fz hst hargs (Q := retL P (hs.map Prod.fst) fn.results.toList R) (fun ex σ h => ?_) hv
  have key : retLP (hs.map Prod.fst) σ (resAV P σ fn.results.toList) R → (resAV P σ fn.results.toList).1 ∧ RetVC P (hs.map Prod.fst) σ (resAV P σ fn.results.toList).2 fun x bs res => (∃ r, x = .d r ∧ R r bs ∧ ∀ b ∈ bs, b.isAr = true) ∧ res = [] := fun h => by
    obtain ⟨h1, r, bs, h2, h3, h4, h5⟩ := h
    have hl : bs.length = (hs.map Prod.fst).length := by have := congrArg List.length h4; simpa using this.symm
    refine ⟨h1, .keep bs [] hl (by simp) (fun q hq => ?_) (by rw [h2]; rfl) ⟨⟨r, h2, h3, h5⟩, rfl⟩⟩
    rw [List.append_nil] at hq
    obtain ⟨i, hi, he⟩ := List.mem_iff_getElem.1 hq
    have hi1 : i < (hs.map Prod.fst).length := by simp at hi ⊢; omega
    have hi2 : i < bs.length := by omega
    have e : q = ((hs.map Prod.fst)[i], bs[i]) := by rw [← he]; simp
    subst e
    have := congrArg (fun l => l[i]?) h4
    simp only [List.getElem?_map, List.getElem?_eq_getElem hi2, Option.map_some] at this
    rw [List.getElem?_eq_getElem (by simpa using hi1)] at this
    refine ⟨by simpa using this, isAr_kp (h5 _ (List.getElem_mem hi2)) _⟩
  cases ex with
  | exit i => exact h
  | normal => exact key h
  | ret => exact key h

theorem CallVC.lendA {f : FuncId} {as args : List AV} {hs : List (Nat × Blk)} {R : D → List Blk → Prop} {K : AV → AS → Prop} (g : Nat → Nat) (hc : LCalls P f args hs R) (has : as = args.map (AV.ren g)) (hg0 : ∀ q, q ∉ hs.map Prod.fst → g q = 0)
    (hhs : ∀ q blk, (q, blk) ∈ hs → (0 < q ∧ q < 100) ∧ blk.isAr = true ∧ σ.hp.heap (g q) = some blk) (hnd : (hs.map Prod.fst).Nodup) (hginj : ∀ q q', q ∈ hs.map Prod.fst → q' ∈ hs.map Prod.fst → g q = g q' → q = q')
    (hk : ∀ r bs, bs.length = hs.length → R r bs → (∀ b ∈ bs, b.isAr = true) → K (.d r) (σ.after g 100 false [] (hs.map Prod.fst) bs [])) : CallVC P f as σ K := by
  intro c ρ w vals loc hr
  subst has
  refine (hr.call (args := args) (hs := hs) [] g 100 (Nat.le_refl _) (by simp) (fun i x y v ha hb hrr => ?_) hg0 (fun q blk hq => ?_) hnd hginj hc).mono fun e w' ⟨v, x, bs, res, he, hkk, hbl, hfin⟩ => ?_
  · have : y = x.ren g := by
      rw [List.getElem?_map, ha] at hb; simpa using hb.symm
    subst this
    exact hrr.unren g x rfl
  · obtain ⟨h1, h2, h3⟩ := hhs q blk hq
    exact ⟨h1, by simp, by rw [isAr_ren h2]; exact h3⟩
  · obtain ⟨⟨r, rfl, hR, hA⟩, rfl⟩ := hkk
    obtain ⟨loc', hr'⟩ := hfin ⟨by simp, by simp⟩ false (.inr (.inl rfl))
    refine ⟨v, _, _, loc', he, hk r bs hbl hR hA, ?_⟩
    have : (AV.d r).back g 100 (hs.map Prod.fst) [] = .d r := rfl
    rw [← this]
    exact hr'

theorem after_lend1 {i : Nat} {b : Blk} (hb : b.isAr = true) : σ.after (fun q => if q = 1 then i else 0) 100 false [] [1] [b] [] = σ.withHp (σ.hp.set i b) := by
  have h1 : (fun i => inNew 100 ([] : List (Nat × Blk)).length i || σ.used i) = σ.used := by
    funext i
    have : inNew 100 ([] : List (Nat × Blk)).length i = false := by simp [inNew]
    rw [this, Bool.false_or]
  simp only [AS.after, h1, AS.withHp]
  congr 1
  simp only [setL, HP.set, Bool.false_eq_true, if_false]
  congr 1
  funext j
  simp only [resE, List.zip_cons_cons, List.zip_nil_right, List.append_nil, List.map_cons, List.map_nil, lookH, renOf, upd, isAr_kp hb, isAr_ren hb]
  by_cases hj : j = i
  · simp [hj]
  · simp [hj]
theorem after_lend3 {i1 i2 i3 : Nat} {b1 b2 b3 : Blk} (n12 : i1 ≠ i2) (n13 : i1 ≠ i3) (n23 : i2 ≠ i3) (c1 : b1.isAr = true) (c2 : b2.isAr = true) (c3 : b3.isAr = true) :
    σ.after (fun q => if q = 1 then i1 else if q = 2 then i2 else if q = 3 then i3 else 0) 100 false [] [1, 2, 3] [b1, b2, b3] [] = σ.withHp (((σ.hp.set i1 b1).set i2 b2).set i3 b3) := by
  have h1 : (fun i => inNew 100 ([] : List (Nat × Blk)).length i || σ.used i) = σ.used := by
    funext i
    have : inNew 100 ([] : List (Nat × Blk)).length i = false := by simp [inNew]
    rw [this, Bool.false_or]
  simp only [AS.after, h1, AS.withHp]
  congr 1
  simp only [setL, HP.set, Bool.false_eq_true, if_false]
  congr 1
  funext j
  simp only [resE, List.zip_cons_cons, List.zip_nil_right, List.append_nil, List.map_cons, List.map_nil, lookH, renOf, upd, isAr_kp c1, isAr_ren c1, isAr_kp c2, isAr_ren c2, isAr_kp c3, isAr_ren c3]
  by_cases j1 : j = i1
  · simp [j1, n12, n13]
  · by_cases j2 : j = i2
    · simp [j2, n12.symm, n23]
    · by_cases j3 : j = i3
      · simp [j3, n13.symm, n23.symm]
      · simp [j1, j2, j3]

/-- A nil slice in a slot is taken as one of the frame's own. -/
theorem Wk.adoptSl (s k sz : Nat) (hs : σ.sl s = .nl) (hf : σ.free k) : Wk P σ ((σ.new k (.ar sz [])).put (some s) (.sl sz k 0 0)) := by
  intro c ρ w loc h
  have h2 := h.adopt k hf sz
  refine ⟨loc, fun t => ?_, h2.len, h2.vals, h2.heap, h2.inj, h2.own, h2.ext, h2.fix, h2.dom, h2.liveU⟩
  simp only [AS.put, upd]
  by_cases ht : t = s
  · subst ht; rw [if_pos rfl]
    have := h.slots t
    rw [hs] at this
    generalize ρ t = v at this ⊢
    cases this; exact .sl0 none sz k 0
  · rw [if_neg ht]; exact h2.slots t

def g1 (i : Nat) (q : Nat) : Nat := if q = 1 then i else 0
def g3 (i1 i2 i3 : Nat) (q : Nat) : Nat := if q = 1 then i1 else if q = 2 then i2 else if q = 3 then i3 else 0
theorem CallVC.lend1 {f : FuncId} {as args : List AV} {b : Blk} {R : D → List Blk → Prop} {K : AV → AS → Prop} (i : Nat) (hc : LCalls P f args [(1, b)] R) (has : as = args.map (AV.ren (g1 i))) (hb : b.isAr = true) (hh : σ.hp.heap i = some b)
    (hk : ∀ r b', R r [b'] → b'.isAr = true → K (.d r) (σ.withHp (σ.hp.set i b'))) : CallVC P f as σ K := by
  refine .lendA (g1 i) hc has (fun q hq => ?_) (fun q blk hq => ?_) (by simp) (fun q q' h h' _ => ?_) (fun r bs hl hR hA => ?_)
  · simp at hq; simp [g1, hq]
  · simp at hq; obtain ⟨rfl, rfl⟩ := hq; exact ⟨by omega, hb, by simpa [g1] using hh⟩
  · simp at h h'; rw [h, h']
  · match bs, hl, hR, hA with
    | [b'], _, hR, hA =>
      have := hA b' (by simp)
      exact (after_lend1 (σ := σ) (i := i) this) ▸ hk r b' hR this
theorem CallVC.lend3 {f : FuncId} {as args : List AV} {b1 b2 b3 : Blk} {R : D → List Blk → Prop} {K : AV → AS → Prop} (i1 i2 i3 : Nat) (n12 : i1 ≠ i2) (n13 : i1 ≠ i3) (n23 : i2 ≠ i3) (hc : LCalls P f args [(1, b1), (2, b2), (3, b3)] R) (has : as = args.map (AV.ren (g3 i1 i2 i3)))
    (hb : b1.isAr = true ∧ b2.isAr = true ∧ b3.isAr = true) (hh : σ.hp.heap i1 = some b1 ∧ σ.hp.heap i2 = some b2 ∧ σ.hp.heap i3 = some b3)
    (hk : ∀ r c1 c2 c3, R r [c1, c2, c3] → K (.d r) (σ.withHp (((σ.hp.set i1 c1).set i2 c2).set i3 c3))) : CallVC P f as σ K := by
  refine .lendA (g3 i1 i2 i3) hc has (fun q hq => ?_) (fun q blk hq => ?_) (by simp) (fun q q' h h' e => ?_) (fun r bs hl hR hA => ?_)
  · simp at hq; simp [g3, hq]
  · simp at hq
    rcases hq with ⟨rfl, rfl⟩ | ⟨rfl, rfl⟩ | ⟨rfl, rfl⟩
    · exact ⟨by omega, hb.1, by simpa [g3] using hh.1⟩
    · exact ⟨by omega, hb.2.1, by simpa [g3] using hh.2.1⟩
    · exact ⟨by omega, hb.2.2, by simpa [g3] using hh.2.2⟩
  · simp at h h'
    rcases h with rfl | rfl | rfl <;> rcases h' with rfl | rfl | rfl <;> simp [g3] at e <;> first | rfl | exact absurd e n12 | exact absurd e n13 | exact absurd e n23 | exact absurd e.symm n12 | exact absurd e.symm n13 | exact absurd e.symm n23
  · match bs, hl, hR, hA with
    | [c1, c2, c3], _, hR, hA =>
      have := after_lend3 (σ := σ) n12 n13 n23 (hA c1 (by simp)) (hA c2 (by simp)) (hA c3 (by simp))
      exact this ▸ hk r c1 c2 c3 hR

attribute [simp] Blk.isAr retG_r retG_n retGP_is retL_r retL_n retLP_is
end
end Go.Fw
