/- Regions that draw their order: one schedule stands for all orders. -/
import Derived.Test.YtfiipgebdcbknaaFwP
set_option linter.unusedSimpArgs false
set_option linter.unusedVariables false
namespace Go.Fw
open Go

def vcIdx (P : Program) (fz : List Nat) (ops : Array Oper) (i : Nat) (σ : AS) (K : AS → Prop) : Prop :=
  match ops[i]? with
  | some o => vcOp P fz ops σ o K
  | none => K σ

def depsOf (ops : Array Oper) (i : Nat) : List Nat :=
  match ops[i]? with
  | some o => (o.after.toList.filter (Region.binds .any)).map (·.on)
  | none => []
def dstOf (ops : Array Oper) (i : Nat) : Option Nat := (ops[i]?).bind (·.dst)
def looksOf (ops : Array Oper) (i : Nat) : List Nat := match ops[i]? with | some o => o.looksAt ops | none => []

/-- Does 'j' wait for 'i'? -/
def ancB (ops : Array Oper) : Nat → Nat → Nat → Bool
  | 0, _, _ => false
  | n + 1, i, j => (depsOf ops j).contains i || (depsOf ops j).any fun d => ancB ops n i d

inductive Step where
  | pur (i : Nat)
  | eff (j : Nat) (chk : List Nat)

/-- A schedule; where two effects are ready at once, one for each. -/
inductive Sched where
  | nil
  | pur (i : Nat) (r : Sched)
  | eff (j : Nat) (chk : List Nat) (r : Sched)
  | alt (j1 : Nat) (c1 : List Nat) (r1 : Sched) (j2 : Nat) (c2 : List Nat) (r2 : Sched)
  | alt3 (j1 : Nat) (c1 : List Nat) (r1 : Sched) (j2 : Nat) (c2 : List Nat) (r2 : Sched) (j3 : Nat) (c3 : List Nat) (r3 : Sched)
def schA : List Step → Sched → Sched
  | [], t => t
  | .pur i :: r, t => .pur i (schA r t)
  | .eff j chk :: r, t => .eff j chk (schA r t)
def sch (l : List Step) : Sched := schA l .nil

def pureOk (ops : Array Oper) (i : Nat) : Bool :=
  match dstOf ops i with
  | some s => !(looksOf ops i).contains s && (List.range ops.size).all fun k => k == i || (dstOf ops k != some s && (!(looksOf ops k).contains s || (depsOf ops k).contains i))
  | none => false
def effOk (ops : Array Oper) (j : Nat) : Bool :=
  match dstOf ops j with
  | some s => (List.range ops.size).all fun k => k == j || (dstOf ops k != some s && (!(looksOf ops k).contains s || (depsOf ops k).contains j || (depsOf ops j).contains k))
  | none => true

def schedOk (ops : Array Oper) : Array Bool → List Nat → Sched → Bool
  | L, _, .nil => Region.ready .any ops L == []
  | L, dn, .pur i r => (Region.ready .any ops L).contains i && pureOk ops i && schedOk ops (L.setIfInBounds i true) (dn ++ [i]) r
  | L, dn, .eff j chk r => Region.ready .any ops L == [j] && effOk ops j && dn.all (fun i => chk.contains i || ancB ops ops.size i j) && schedOk ops (L.setIfInBounds j true) dn r
  | L, dn, .alt j1 c1 r1 j2 c2 r2 => Region.ready .any ops L == [j1, j2] && (effOk ops j1 && dn.all (fun i => c1.contains i || ancB ops ops.size i j1) && schedOk ops (L.setIfInBounds j1 true) dn r1) &&
      (effOk ops j2 && dn.all (fun i => c2.contains i || ancB ops ops.size i j2) && schedOk ops (L.setIfInBounds j2 true) dn r2)
  | L, dn, .alt3 j1 c1 r1 j2 c2 r2 j3 c3 r3 => Region.ready .any ops L == [j1, j2, j3] && (effOk ops j1 && dn.all (fun i => c1.contains i || ancB ops ops.size i j1) && schedOk ops (L.setIfInBounds j1 true) dn r1) &&
      (effOk ops j2 && dn.all (fun i => c2.contains i || ancB ops ops.size i j2) && schedOk ops (L.setIfInBounds j2 true) dn r2) && (effOk ops j3 && dn.all (fun i => c3.contains i || ancB ops ops.size i j3) && schedOk ops (L.setIfInBounds j3 true) dn r3)

/-- The value of an operation that only yields one, the guard with it. -/
def pureV (P : Program) (σ : AS) (ops : Array Oper) (o : Oper) : Option PA :=
  match o.guard with
  | none => fval P σ o.op
  | some (j, b) => match gBool (guardAV σ ops j) b, fval P σ o.op with
    | some g, some (p, x) => some (g = true → p, mkOp g x)
    | _, _ => none

def chkAll (P : Program) (ops : Array Oper) (σ : AS) : List Nat → Prop
  | [] => True
  | i :: r => (match ops[i]? with
    | some o => match pureV P σ ops o, o.dst with
      | some (p, x), some d => p ∧ x = σ.sl d
      | _, _ => False
    | none => False) ∧ chkAll P ops σ r

def vcPur (P : Program) (ops : Array Oper) (i : Nat) (σ : AS) (K : AS → Prop) : Prop :=
  match ops[i]? with
  | some o => match pureV P σ ops o with
    | some (p, x) => p ∧ K (σ.put o.dst x)
    | none => False
  | none => False

def vcSched (P : Program) (fz : List Nat) (ops : Array Oper) : Sched → AS → (AS → Prop) → Prop
  | .nil, σ, K => K σ
  | .pur i r, σ, K => vcPur P ops i σ fun σ' => vcSched P fz ops r σ' K
  | .eff j chk r, σ, K => vcIdx P fz ops j σ fun σ' => chkAll P ops σ' chk ∧ vcSched P fz ops r σ' K
  | .alt j1 c1 r1 j2 c2 r2, σ, K => (vcIdx P fz ops j1 σ fun σ' => chkAll P ops σ' c1 ∧ vcSched P fz ops r1 σ' K) ∧ (vcIdx P fz ops j2 σ fun σ' => chkAll P ops σ' c2 ∧ vcSched P fz ops r2 σ' K)
  | .alt3 j1 c1 r1 j2 c2 r2 j3 c3 r3, σ, K => (vcIdx P fz ops j1 σ fun σ' => chkAll P ops σ' c1 ∧ vcSched P fz ops r1 σ' K) ∧ (vcIdx P fz ops j2 σ fun σ' => chkAll P ops σ' c2 ∧ vcSched P fz ops r2 σ' K) ∧ (vcIdx P fz ops j3 σ fun σ' => chkAll P ops σ' c3 ∧ vcSched P fz ops r3 σ' K)

section
variable {P : Program} {c : Ctx} {n : Nat} {σ : AS} {ops : Array Oper} {a : Act} {w : World} {fz : List Nat}

def YieldsAt (P : Program) (ops : Array Oper) (o : Oper) (u : Value) (a : Act) (w : World) : Prop :=
  (Region.wanted o (yielded ops a.tmps) = true ∧ (execOp a.eval o).run P w = .ok (.value u) w) ∨ (Region.wanted o (yielded ops a.tmps) = false ∧ u = undef)

theorem YieldsAt.of_same {o : Oper} {u : Value} {a' : Act} (h : YieldsAt P ops o u a w) (he : execOp a'.eval o = execOp a.eval o) (hw : Region.wanted o (yielded ops a'.tmps) = Region.wanted o (yielded ops a.tmps)) : YieldsAt P ops o u a' w := by
  unfold YieldsAt at *; rw [he, hw]; exact h

theorem pure_yields {o : Oper} {p : Prop} {x : AV} {loc : Nat → Option (Nat × Nat)} (hr : RepL P c σ (fun s => a.tmps.getD s undef) w [] [] loc) (hs : a.tmps.size = n) (hg : ∀ j b, o.guard = some (j, b) → ∀ t, (ops[j]?).bind (·.dst) = some t → t < n)
    (hv : pureV P σ ops o = some (p, x)) (hp : p) : ∃ u, YieldsAt P ops o u a w ∧ RepA P w (okOf c w σ.hp loc) loc u x := by
  have heval := act_eval a
  unfold pureV at hv
  split at hv
  · rename_i hgd
    obtain ⟨v, r1, r2⟩ := hr.fval o hv hp
    exact ⟨v, .inl ⟨by simp [Region.wanted, hgd], by rw [heval]; exact r1⟩, r2⟩
  · rename_i j want hgd
    split at hv
    · rename_i gb q y hgb hf
      simp only [Option.some.injEq, Prod.mk.injEq] at hv; obtain ⟨rfl, rfl⟩ := hv
      have hw : Region.wanted o (yielded ops a.tmps) = gb := by
        simp only [Region.wanted, hgd]
        unfold guardAV at hgb
        split at hgb
        · rename_i t ht
          have hlt := hg j want hgd t ht
          have hy : yielded ops a.tmps j = match a.tmps.getD t undef with | .bool b => some b | _ => none := by
            simp only [yielded, ht, Option.bind_some]
            have hlt' : t < a.tmps.size := by rw [hs]; exact hlt
            have : a.tmps[t]? = some (a.tmps.getD t undef) := by
              rw [Array.getElem?_eq_getElem hlt', Array.getD_eq_getD_getElem?, Array.getElem?_eq_getElem hlt']; rfl
            rw [this]
            cases a.tmps.getD t undef <;> rfl
          have hrep := hr.slots t
          unfold gBool at hgb
          split at hgb
          · rename_i b e
            rw [e] at hrep
            simp only [Option.some.injEq] at hgb; subst hgb
            rw [hy, hrep.inv_bool]
            cases b <;> cases want <;> rfl
          · rename_i p b e
            rw [e] at hrep
            simp only [Option.some.injEq] at hgb; subst hgb
            generalize a.tmps.getD t undef = v at hrep hy
            cases hrep with | op h1 h2 =>
            rw [hy]
            cases p
            · rw [h2 rfl]; rfl
            · rw [(h1 rfl).inv_bool]; cases b <;> cases want <;> rfl
          · cases hgb
        · simp [gBool] at hgb
      cases gb
      · exact ⟨undef, .inr ⟨hw, rfl⟩, RepA.mkOp (.op (fun h => by cases h) fun _ => rfl)⟩
      · obtain ⟨v, r1, r2⟩ := hr.fval o hf (hp rfl)
        exact ⟨v, .inl ⟨hw, by rw [heval]; exact r1⟩, RepA.mkOp (.op (fun _ => r2) fun h => by cases h)⟩
    · cases hv

/-! ### Frames in which pending values are filled in -/

def fill (ops : Array Oper) (a : Act) : List (Nat × Value) → Act
  | [] => a
  | (i, u) :: r => fill ops (a.put (dstOf ops i) u) r

theorem fill_append (ops : Array Oper) : ∀ (l r : List (Nat × Value)) (a : Act), fill ops a (l ++ r) = fill ops (fill ops a l) r
  | [], _, _ => rfl
  | (i, u) :: l, r, a => by simp only [List.cons_append, fill]; exact fill_append ops l r _

def apartD (x y : Option Nat) : Prop := ∀ d, x = some d → y ≠ some d
theorem apartD.symm {x y : Option Nat} (h : apartD x y) : apartD y x := fun d hy hx => h d hx hy

theorem fill_put (v : Value) {x : Option Nat} : ∀ (l : List (Nat × Value)) (a : Act), (∀ p ∈ l, apartD x (dstOf ops p.1)) → fill ops (a.put x v) l = (fill ops a l).put x v
  | [], _, _ => rfl
  | (i, u) :: l, a, h => by
    simp only [fill]
    rw [Act.put_comm a v u (h (i, u) (by simp))]
    exact fill_put v l _ fun p hp => h p (by simp [hp])

theorem fill_exec {o : Oper} (hs : ∀ cs b, o.op ≠ .select cs b) : ∀ (l : List (Nat × Value)) (a : Act), (∀ p ∈ l, ∀ d, dstOf ops p.1 = some d → d ∉ o.looksAt ops) →
    execOp (fill ops a l).eval o = execOp a.eval o ∧ Region.wanted o (yielded ops (fill ops a l).tmps) = Region.wanted o (yielded ops a.tmps)
  | [], _, _ => ⟨rfl, rfl⟩
  | (i, u) :: l, a, h => by
    simp only [fill]
    obtain ⟨h1, h2⟩ := fill_exec hs l (a.put (dstOf ops i) u) fun p hp => h p (by simp [hp])
    have h0 := h (i, u) (by simp)
    exact ⟨h1.trans (execOp_put o hs a _ u h0), h2.trans (wanted_put o a _ u h0)⟩

theorem put_put (a : Act) (x : Option Nat) (u v : Value) : (a.put x u).put x v = a.put x v := by
  cases x <;> simp [Act.put]

structure GP (P : Program) (c : Ctx) (n : Nat) (σ : AS) (ops : Array Oper) (pend : List (Nat × Value)) (a : Act) (w : World) : Prop where
  good : Good P c n σ (fill ops a pend) w
  yields : ∀ p ∈ pend, ∃ o, ops[p.1]? = some o ∧ YieldsAt P ops o p.2 (fill ops a pend) w

theorem Good.fillSlot {d : Nat} {u : Value} {loc : Nat → Option (Nat × Nat)} (hs : a.tmps.size = n) (hd : d < n) (hdf : a.defers = []) (hr : RepL P c σ (fun s => a.tmps.getD s undef) w [] [] loc) (hu : RepA P w (okOf c w σ.hp loc) loc u (σ.sl d)) : Good P c n σ (a.put (some d) u) w := by
  have := Good.put (dst := some d) (x := σ.sl d) (v := u) (fun t ht => by cases ht; exact hd) hs hdf (hr.setVal1 hu)
  have e : σ.put (some d) (σ.sl d) = σ := by
    cases σ with | mk sl hp used =>
    simp only [AS.put, AS.mk.injEq, and_true]
    funext s
    simp only [upd]
    split
    · rename_i h; rw [h]
    · rfl
  rwa [e] at this

/-- No operation in the list looks at what it, or a later one, yields. -/
def Sep (ops : Array Oper) : List Nat → Prop
  | [] => True
  | i :: r => (∀ d, dstOf ops i = some d → d ∉ looksOf ops i) ∧ (∀ k ∈ r, (∀ d, dstOf ops k = some d → d ∉ looksOf ops i) ∧ apartD (dstOf ops i) (dstOf ops k)) ∧ Sep ops r

theorem chkAll_get : ∀ {l : List Nat}, chkAll P ops σ l → ∀ i ∈ l, ∃ o p x d, ops[i]? = some o ∧ pureV P σ ops o = some (p, x) ∧ o.dst = some d ∧ p ∧ x = σ.sl d
  | [], _, i, hi => by simp at hi
  | k :: r, h, i, hi => by
    rcases List.mem_cons.1 hi with rfl | hi
    · have h1 := h.1
      split at h1
      · rename_i o ho
        split at h1
        · rename_i p x d e1 e2; exact ⟨o, p, x, d, ho, e1, e2, h1.1, h1.2⟩
        · exact h1.elim
      · exact h1.elim
    · exact chkAll_get h.2 i hi

/-- All slots that the region's operations write lie within the frame. -/
def dstsIn (ops : Array Oper) (n : Nat) : Prop := ∀ i d, dstOf ops i = some d → d < n

theorem refill (hns : Region.noSelect ops = true) (hin : dstsIn ops n) : ∀ (pend : List (Nat × Value)) (a : Act), Sep ops (pend.map Prod.fst) → Good P c n σ (fill ops a pend) w → (∀ q ∈ pend, ∃ o p x d, ops[q.1]? = some o ∧ pureV P σ ops o = some (p, x) ∧ o.dst = some d ∧ p ∧ x = σ.sl d) →
    ∃ pend', pend'.map Prod.fst = pend.map Prod.fst ∧ Good P c n σ (fill ops a pend') w ∧ ∀ q ∈ pend', ∃ o, ops[q.1]? = some o ∧ YieldsAt P ops o q.2 (fill ops a pend') w
  | [], a, _, hg, _ => ⟨[], rfl, hg, by simp⟩
  | (i, u) :: r, a, hsep, hg, hc => by
    obtain ⟨o, p, x, d, ho, hv, hd, hp, hx⟩ := hc (i, u) (by simp)
    simp only at ho
    have hdst : dstOf ops i = some d := by simp [dstOf, ho, hd]
    have hlook : looksOf ops i = o.looksAt ops := by simp [looksOf, ho]
    have hsel := fun cs b => Region.noSelect_spec hns i o cs b ho
    obtain ⟨s1, s2, s3⟩ := hsep
    have hgd : ∀ j b, o.guard = some (j, b) → ∀ t, (ops[j]?).bind (·.dst) = some t → t < n := fun j b _ t ht => hin j t ht
    obtain ⟨⟨loc, hr⟩, hs, hdf⟩ := hg
    obtain ⟨v, hy, hrep⟩ := pure_yields hr hs hgd hv hp
    rw [hx] at hrep
    have hg2 : Good P c n σ ((fill ops a ((i, u) :: r)).put (some d) v) w := Good.fillSlot hs (hin i d hdst) hdf hr hrep
    have hap : ∀ p ∈ r, apartD (some d) (dstOf ops p.1) := fun p hp' => by rw [← hdst]; exact (s2 p.1 (List.mem_map.2 ⟨p, hp', rfl⟩)).2
    have e1 : (fill ops a ((i, u) :: r)).put (some d) v = fill ops (a.put (some d) v) r := by
      simp only [fill, hdst]
      rw [← fill_put v r _ hap, put_put]
    rw [e1] at hg2
    obtain ⟨r', h1, h2, h3⟩ := refill hns hin r (a.put (some d) v) s3 hg2 fun q hq => hc q (by simp [hq])
    refine ⟨(i, v) :: r', by simp [h1], by simpa only [fill, hdst] using h2, fun q hq => ?_⟩
    rcases List.mem_cons.1 hq with rfl | hq
    · refine ⟨o, ho, ?_⟩
      have l1 := fill_exec (ops := ops) hsel ((i, u) :: r) a fun q hq d' hd' => by
        rw [← hlook]
        rcases List.mem_cons.1 hq with rfl | hq
        · exact s1 d' hd'
        · exact (s2 q.1 (List.mem_map.2 ⟨q, hq, rfl⟩)).1 d' hd'
      have l2 := fill_exec (ops := ops) hsel ((i, v) :: r') a fun q hq d' hd' => by
        rw [← hlook]
        rcases List.mem_cons.1 hq with rfl | hq
        · exact s1 d' hd'
        · have : q.1 ∈ r.map Prod.fst := by rw [← h1]; exact List.mem_map.2 ⟨q, hq, rfl⟩
          exact (s2 q.1 this).1 d' hd'
      exact hy.of_same (l2.1.trans l1.1.symm) (l2.2.trans l1.2.symm)
    · have := h3 q hq
      simpa only [fill, hdst] using this

end
end Go.Fw
