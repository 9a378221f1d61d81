/- The framework, part Fwb. -/
import Derived.Test.YteenfgdemklhcaaFwa
set_option linter.unusedSimpArgs false
set_option linter.unusedVariables false
/- One operation, and a list of them: what is to be shown, and that it suffices. -/
namespace Go.Fw
open Go

/-- A call of a function: the result, and the state afterwards. -/
def CallVC (P : Program) (f : FuncId) (as : List AV) (σ : AS) (K : AV → AS → Prop) : Prop :=
  ∀ (c : Ctx) (ρ : Nat → Value) (w : World) (vals : List Value) (loc : Nat → Option (Nat × Nat)), RepL P c σ ρ w vals as loc →
    Calls P f vals.toArray w fun e w' => ∃ v x σ' loc', e = .returned v ∧ K x σ' ∧ RepL P c σ' ρ w' [v] [x] loc'

def stripsP : List AV → Prop
  | [] => True
  | x :: r => x.strip.1 ∧ stripsP r
def strips (l : List AV) : List AV := l.map fun x => x.strip.2

def dsets (off : Nat) : List D → List D → List D
  | [], cs => cs
  | x :: r, cs => dsets (off + 1) r (cs.set off x)

/-- An element after a store of 'n' cells into it. -/
def newElem (old : D) (off n sz : Nat) (dx : D) : D :=
  if n = sz ∧ off = 0 then dx else match old with
    | .agg cs => .agg (dsets off dx.cells cs)
    | x => x

def vcStore (P : Program) (σ : AS) (t : TypeId) (a x : AV) (K : AS → Prop) : Prop :=
  match a with
  | .ptr id off => match σ.hp.heap id, tI P t, cellsA x with
    | some (.bx cs), some (_, n, _), some ys => (ys.length = n ∧ ys.all AV.cell1 = true ∧ off + n ≤ cs.length) ∧ K { σ with hp := σ.hp.set id (.bx (setCells off ys cs)) }
    | _, _, _ => False
  | .ep sz id i off => match σ.hp.heap id, tI P t, toD σ.hp x with
    | some (.ar sz' zs), some (_, n, _), some (p, dx, l) =>
      (p ∧ id ∉ l ∧ sz = sz' ∧ i < zs.length ∧ 0 < n ∧ dx.fits n ∧ off + n ≤ sz) ∧ K { σ with hp := (σ.hp.dropL l).set id (.ar sz' (zs.set i (newElem (zs.getD i D.dflt) off n sz dx))) }
    | some (.bx cs), some (_, n, _), _ => match cellsA x with
      | some ys => (ys.length = n ∧ ys.all AV.cell1 = true ∧ i * sz + off + n ≤ cs.length) ∧ K { σ with hp := σ.hp.set id (.bx (setCells (i * sz + off) ys cs)) }
      | none => False
    | _, _, _ => False
  | _ => False

/-- append of cells that stay as they are (rows of the frame's own among them); how much room is left is not known. -/
def vcAppL (σ : AS) (dst : Option Nat) (s x : AV) (e e2 : Option (Nat × Nat × TypeId)) (T : TypeId → Option (Bool × Nat × List Value)) (K : AS → Prop) : Prop :=
  match x, e, e2 with
  | .sl sz2 id off2 m, some (es, by', e), some _ => match σ.hp.heap id, T e with
    | some (.bx ds), some (_, _, z) => (sz2 = 1 ∧ off2 = 0 ∧ es = 1 ∧ z.length = 1 ∧ m ≤ ds.length ∧ 0 < m) ∧ match s with
      | .nl => match dst with
        | some k => (σ.free (100 * k) ∧ m ≤ 9223372036854775807 ∧ m * by' ≤ 140737488355328) ∧ ∀ r, K ((σ.new (100 * k) (.bx (ds.take m ++ List.replicate r .unk))).put dst (.sl 1 (100 * k) 0 m))
        | none => False
      | .sl sz k off len => match σ.hp.heap k with
        | some (.bx cs) => ((100 ≤ k ∧ k < 1000000000000) ∧ sz = 1 ∧ off = 0 ∧ len ≤ cs.length ∧ (∀ y ∈ ds.take m, y.cell1 = true) ∧ len + m ≤ 9223372036854775807 ∧ (len + m) * by' ≤ 140737488355328) ∧
            ∀ r, K ((σ.renew k (.bx ((cs.take len ++ ds.take m).map (AV.kill k) ++ List.replicate r .unk))).put dst (.sl 1 k 0 (len + m)))
        | _ => False
      | _ => False
    | _, _ => False
  | _, _, _ => False
def vcAppend (P : Program) (σ : AS) (dst : Option Nat) (t t2 : TypeId) (s x : AV) (K : AS → Prop) : Prop :=
  match srcOf σ.hp x, tElem P t, tElem P t2 with
  | some (p, ys), some (es, by', e), some _ => match tI P e with
    | some (_, _, z) => match s with
      | .nl => match dst with
        | some k => (σ.free (100 * k) ∧ p ∧ z.length = es ∧ 0 < es ∧ (∀ y ∈ ys, y.fits es) ∧ ys.length ≤ 9223372036854775807 ∧ ys.length * by' ≤ 140737488355328) ∧ K ((σ.new (100 * k) (.ar es ys)).put dst (.sl es (100 * k) 0 ys.length))
        | none => False
      | .sl sz id off len => match σ.hp.heap id with
        | some (.ar sz' zs) => ((100 ≤ id ∧ id < 1000000000000) ∧ p ∧ sz = es ∧ sz' = es ∧ off + len = zs.length ∧ z.length = es ∧ 0 < es ∧ (∀ y ∈ ys, y.fits es) ∧ len + ys.length ≤ 9223372036854775807 ∧ (len + ys.length) * by' ≤ 140737488355328) ∧
            K ((σ.renew id (.ar es (zs.drop off ++ ys))).put dst (.sl es id 0 (len + ys.length)))
        | _ => False
      | _ => False
    | none => False
  | none, e, e2 => vcAppL σ dst s x e e2 (tI P) K
  | _, _, _ => False

/-- 'copy' into a row of one-cell elements of the frame's own. -/
def vcCopy (P : Program) (σ : AS) (dst : Option Nat) (t : TypeId) (s x : AV) (K : AS → Prop) : Prop :=
  match srcOf σ.hp x, tElem P t, s with
  | some (p, ys), some (es, _, _), .sl sz id off dl => match σ.hp.heap id with
    | some (.ar sz' zs) => (p ∧ es = 1 ∧ sz = 1 ∧ sz' = 1 ∧ off + dl ≤ zs.length ∧ (∀ y ∈ ys, y.isAgg = false) ∧ 0 < min ys.length dl) ∧
        K (({ σ with hp := σ.hp.set id (.ar 1 (zs.take off ++ ys.take (min ys.length dl) ++ zs.drop (off + min ys.length dl))) } : AS).put dst (.d (.int .i64 ((min ys.length dl : Nat) : Int))))
    | _ => False
  | _, _, _ => False

def vcCall (P : Program) (σ : AS) (f : AV) (as : List AV) (K : AV → AS → Prop) : Prop :=
  match f with
  | .fv (.func g) first caps => callable P g = true ∧ CallVC P g (first ++ as ++ caps) σ K
  | .clo S => match toDA σ.hp as with
    | some (p, ds, _) => p ∧ S ds fun y => K (.d y) σ
    | none => False
  | _ => False

def vcCallOp (P : Program) (σ : AS) (dst : Option Nat) : Callee → List Operand → List TypeId → (AS → Prop) → Prop
  | .builtin .append, [s, x], [t, t2], K => (σ.opd s).strip.1 ∧ (σ.opd x).strip.1 ∧ vcAppend P σ dst t t2 (σ.opd s).strip.2 (σ.opd x).strip.2 K
  | .value f, args, _, K => (σ.opd f).strip.1 ∧ stripsP (args.map σ.opd) ∧ vcCall P σ (σ.opd f).strip.2 (strips (args.map σ.opd)) fun x σ' => K (σ'.put dst x)
  | .builtin .copy, [s, x], [t, _], K => (σ.opd s).strip.1 ∧ (σ.opd x).strip.1 ∧ vcCopy P σ dst t (σ.opd s).strip.2 (σ.opd x).strip.2 K
  | _, _, _, _ => False

/-- The number of the block that a slot's operation makes: the numbers below 100 are the lent ones. -/
def bId (k : Nat) : Nat := if k = 0 then 77777777 else 100 * k
def vcMapPut (σ : AS) (q : Option (KK × IntKind)) (m k x : AV) (K : AS → Prop) : Prop :=
  match q, m, k, x with
  | some (kk, _), .mp id, .d kd, .d xd => match σ.hp.heap id with
    | some (.mb es) => (keyOk kk kd ∧ (∀ e ∈ es, keyOk kk e.1) ∧ mhas es kd = false) ∧ K { σ with hp := σ.hp.set id (.mb (es ++ [(kd, xd)])) }
    | _ => False
  | _, _, _, _ => False
def vcMapGet (σ : AS) (dst : Option Nat) (q : Option (KK × IntKind)) (m k : AV) (cok : Bool) (K : AS → Prop) : Prop :=
  match q, m, k with
  | some (kk, ik), .mp id, .d kd => match σ.hp.heap id with
    | some (.mb es) => (keyOk kk kd ∧ ∀ e ∈ es, keyOk kk e.1) ∧ K (σ.put dst (if cok then .tp [.d (mget ik es kd), .d (.bool (mhas es kd))] else .d (mget ik es kd)))
    | _ => False
  | _, _, _ => False
/-- A slice literal whose rows stay the frame's own: asked for by 1000 + its slot among the frozen. -/
def vcBuildL (σ : AS) (dst : Option Nat) (len n : Nat) (is : List Nat) (st : Prop) (e : Option (Nat × Nat × TypeId)) (T : TypeId → Option (Bool × Nat × List Value)) (as : List AV) (K : AS → Prop) : Prop :=
  match dst, e with
  | some k, some (es, _, e) => match T e with
    | some _ => (σ.free (100 * k) ∧ st ∧ is = List.range len ∧ n = len ∧ es = 1 ∧ as.all AV.cell1 = true ∧ len ≤ 16777216) ∧ K ((σ.new (100 * k) (.bx as)).put (some k) (.sl 1 (100 * k) 0 len))
    | none => False
  | _, _ => False
/-- make of a row of nil rows, which stays cell by cell: asked for by 1000 + its slot among the frozen. -/
def vcMakeL (σ : AS) (dst : Option Nat) (e : Option (Nat × Nat × TypeId)) (x y : AV) (p q : Prop) (T : TypeId → Option (Bool × Nat × List Value)) (K : AS → Prop) : Prop :=
  match dst, e, x, y with
  | some k, some (es, by', e), .d (.int _ m), .d (.int _ n) => match T e with
    | some (_, _, z) => (σ.free (100 * k) ∧ p ∧ q ∧ 0 ≤ m ∧ m = n ∧ (by' : Int) * n ≤ 281474976710656 ∧ n ≤ 9223372036854775807 ∧ z = [.slice none 0 0] ∧ es = 1) ∧ K ((σ.new (100 * k) (.bx (List.replicate m.toNat .nl))).put (some k) (.sl 1 (100 * k) 0 m.toNat))
    | none => False
  | _, _, _, _ => False
/-- The operations that make or write memory, and the calls. -/
def vcAct (P : Program) (fz : List Nat) (σ : AS) (dst : Option Nat) : Op → (AS → Prop) → Prop
  | .alloc t, K => match dst, tI P t with
    | some k, some (_, _, z) => σ.free (bId k) ∧ K ((σ.new (bId k) (.bx (z.map ofVal))).put (some k) (.ptr (bId k) 0))
    | _, _ => False
  | .box _ x, K => match dst, cellsA (σ.opd x).strip.2 with
    | some k, some ys => (σ.opd x).strip.1 ∧ if fz.contains k = true then K (σ.put (some k) (.dp ys)) else σ.free (100 * k) ∧ K ((σ.new (100 * k) (.bx ys)).put (some k) (.ptr (100 * k) 0))
    | _, _ => False
  | .store t a x, K => dst = none ∧ (σ.opd a).strip.1 ∧ (σ.opd x).strip.1 ∧ vcStore P σ t (σ.opd a).strip.2 (σ.opd x).strip.2 K
  | .buildSlice t len parts, K => if fz.contains (1000 + dst.getD 0) = true then vcBuildL σ dst len parts.size (parts.toList.map Prod.fst) (stripsP (parts.toList.map fun p => σ.opd p.2)) (tElem P t) (tI P) (strips (parts.toList.map fun p => σ.opd p.2)) K else match dst, tElem P t with
    | some k, some (es, _, e) => match tI P e, toDA σ.hp (strips (parts.toList.map fun p => σ.opd p.2)) with
      | some _, some (p, ys, l) => (σ.free (100 * k) ∧ stripsP (parts.toList.map fun p => σ.opd p.2) ∧ parts.toList.map Prod.fst = List.range len ∧ parts.size = len ∧ p ∧ (∀ y ∈ ys, y.fits es) ∧ 0 < es ∧ len * es ≤ 16777216) ∧
          K ((AS.new { σ with hp := σ.hp.dropL l } (100 * k) (.ar es ys)).put (some k) (.sl es (100 * k) 0 len))
      | _, _ => False
    | _, _ => False
  | .makeSlice t l cp, K => if fz.contains (1000 + dst.getD 0) = true then vcMakeL σ dst (tElem P t) (σ.opd l).strip.2 (σ.opd cp).strip.2 (σ.opd l).strip.1 (σ.opd cp).strip.1 (tI P) K else match dst, tElem P t, (σ.opd l).strip.2, (σ.opd cp).strip.2 with
    | some k, some (es, by', e), .d (.int _ m), .d (.int _ q) => match tI P e with
      | some (ag, _, z) => match zeroD ag z with
        | some zd => (σ.free (100 * k) ∧ (σ.opd l).strip.1 ∧ (σ.opd cp).strip.1 ∧ 0 ≤ m ∧ m ≤ q ∧ (by' : Int) * q ≤ 281474976710656 ∧ q ≤ 9223372036854775807 ∧ zd.fits es ∧ 0 < es) ∧
            K ((σ.new (100 * k) (.ar es (List.replicate m.toNat zd))).put (some k) (.sl es (100 * k) 0 m.toNat))
        | none => False
      | none => False
    | _, _, _, _ => False
  | .call cl, K => vcCallOp P σ dst cl.callee cl.args.toList cl.argTypes.toList K
  | .makeMap _ none, K => match dst with
    | some k => σ.free (100 * k) ∧ K ((σ.new (100 * k) (.mb [])).put (some k) (.mp (100 * k)))
    | none => False
  | .insert t m k x, K => dst = none ∧ ((σ.opd m).strip.1 ∧ (σ.opd k).strip.1 ∧ (σ.opd x).strip.1) ∧ vcMapPut σ (tMapI P t) (σ.opd m).strip.2 (σ.opd k).strip.2 (σ.opd x).strip.2 K
  | .mapUpdate t m k x, K => dst = none ∧ ((σ.opd m).strip.1 ∧ (σ.opd k).strip.1 ∧ (σ.opd x).strip.1) ∧ vcMapPut σ (tMapI P t) (σ.opd m).strip.2 (σ.opd k).strip.2 (σ.opd x).strip.2 K
  | .lookup t m k cok, K => ((σ.opd m).strip.1 ∧ (σ.opd k).strip.1) ∧ vcMapGet σ dst (tMapI P t) (σ.opd m).strip.2 (σ.opd k).strip.2 cok K
  | _, _ => False

/-- A guarded call whose value is known, and which leaves the state alone. -/
def vcFun (P : Program) (σ : AS) : Op → D → Prop
  | .call cl, r => match cl.callee with
    | .value f => (σ.opd f).strip.1 ∧ stripsP (cl.args.toList.map σ.opd) ∧ vcCall P σ (σ.opd f).strip.2 (strips (cl.args.toList.map σ.opd)) fun x σ' => x = .d r ∧ σ' = σ
    | _ => False
  | _, _ => False

def gBool (x : AV) (want : Bool) : Option Bool :=
  match x with
  | .d (.bool b) => some (b == want)
  | .op p (.d (.bool b)) => some (p && (b == want))
  | _ => none

def guardAV (σ : AS) (ops : Array Oper) (j : Nat) : AV := match (ops[j]?).bind (·.dst) with | some g => σ.sl g | none => .unk

def vcOp (P : Program) (fz : List Nat) (ops : Array Oper) (σ : AS) (o : Oper) (K : AS → Prop) : Prop :=
  match o.guard with
  | none => match fval P σ o.op with
    | some q => q.1 ∧ K (σ.put o.dst q.2)
    | none => vcAct P fz σ o.dst o.op K
  | some (j, want) => match gBool (guardAV σ ops j) want with
    | some g => match fval P σ o.op with
      | some q => (g = true → q.1) ∧ K (σ.put o.dst (mkOp g q.2))
      | none => ((g = true → vcAct P fz σ o.dst o.op K) ∧ (g = false → K (σ.put o.dst .unk))) ∨ ∃ r, (g = true → vcFun P σ o.op r) ∧ K (σ.put o.dst (.op g (.d r)))
    | none => False

def vcOps (P : Program) (fz : List Nat) (ops : Array Oper) : List Oper → AS → (AS → Prop) → Prop
  | [], σ, K => K σ
  | o :: r, σ, K => vcOp P fz ops σ o fun σ' => vcOps P fz ops r σ' K

section
variable {P : Program} {c : Ctx} {σ : AS} {ρ : Nat → Value} {w : World} {loc : Nat → Option (Nat × Nat)}

theorem RepL.optRep (h : RepL P c σ ρ w [] [] loc) (x : Option Operand) (hs : (stO (x.map σ.opd)).1) : RepO P w (okOf c w σ.hp loc) loc (x.map (evalR ρ)) (stO (x.map σ.opd)).2 := by
  cases x with
  | none => trivial
  | some x => exact (h.opd x).strip hs

theorem RepL.fval (h : RepL P c σ ρ w [] [] loc) (o : Oper) {q : PA} (hq : Fw.fval P σ o.op = some q) (hp : q.1) :
    ∃ v, (execOp (evalR ρ) o).run P w = .ok (.value v) w ∧ RepA P w (okOf c w σ.hp loc) loc v q.2 := by
  obtain ⟨dst, op, type, pos, aft, guard⟩ := o
  simp only at hq
  unfold Fw.fval at hq
  split at hq <;> first | (cases hq; done) | skip
  all_goals first | (simp only [Option.some.injEq] at hq; subst hq; simp only [execOp]) | simp only [execOp]
  · rename_i x; exact ⟨_, rfl, h.opd x⟩
  · rename_i x; exact ⟨_, rfl, h.opd x⟩
  · rename_i x a b
    obtain ⟨y, hy, hr⟩ := s_pick hp (h.opd x) (h.opd a) (h.opd b)
    exact ⟨_, by simp only [Sem.run_bind, hy, asBool, Sem.run_pure, Result.andThen_ok], hr⟩
  · rename_i bop t x y ty
    obtain ⟨v, hv, hr⟩ := s_bin (w := w) (op := bop) (x := x) (y := y) hp.2.2 ((h.opd x).strip hp.1) ((h.opd y).strip hp.2.1)
    exact ⟨v, by rw [Sem.run_bind, hv]; rfl, hr⟩
  · rename_i uop t x
    obtain ⟨v, hv, hr⟩ := s_un (w := w) hp.2 ((h.opd x).strip hp.1)
    exact ⟨v, by rw [Sem.run_bind, hv]; rfl, hr⟩
  · rename_i s t x
    have hx := (h.opd x).strip hp.1
    have hq := hp.2
    simp only [st1] at hq ⊢
    generalize (σ.opd x).strip.2 = y at hx hq ⊢
    have key : ∃ v, (convert s t (evalR ρ x)).run P w = .ok v w ∧ RepA P w (okOf c w σ.hp loc) loc v (fConvX P σ.hp s t y).2 := by
      unfold fConvX at hq ⊢
      split at hq
      · exact s_conv (w := w) hq hx
      · exact h.convB hq hx
      · exact h.convB hq hx
      · exact h.convB hq hx
      · exact hq.elim
    obtain ⟨v, hv, hr⟩ := key
    exact ⟨v, by rw [Sem.run_bind, hv]; rfl, hr⟩
  · rename_i t x
    obtain ⟨v, hv, hr⟩ := h.load hp.2 ((h.opd x).strip hp.1)
    exact ⟨v, by rw [Sem.run_bind, hv]; rfl, hr⟩
  · rename_i t x f
    obtain ⟨v, hv, hr⟩ := s_field (w := w) hp.2 ((h.opd x).strip hp.1)
    exact ⟨v, by rw [Sem.run_bind, hv]; rfl, hr⟩
  · rename_i t x i
    obtain ⟨v, hv, hr⟩ := s_idx (w := w) hp.2.2 ((h.opd x).strip hp.1) ((h.opd i).strip hp.2.1)
    exact ⟨v, by rw [Sem.run_bind, hv]; rfl, hr⟩
  · rename_i t x i
    obtain ⟨v, hv, hr⟩ := s_index (w := w) hp.2.2 ((h.opd x).strip hp.1) ((h.opd i).strip hp.2.1)
    exact ⟨v, by rw [Sem.run_bind, hv]; rfl, hr⟩
  · rename_i t x lo hi
    obtain ⟨p1, p2, p3, p4⟩ := hp
    obtain ⟨v, hv, hr⟩ := s_slice (w := w) p4 ((h.opd x).strip p1) (h.optRep lo p2) (h.optRep hi p3)
    exact ⟨v, by rw [Option.map_none, Sem.run_bind, hv]; rfl, hr⟩
  · rename_i x i
    obtain ⟨v, hv, hr⟩ := s_extract (w := w) hp.2 ((h.opd x).strip hp.1)
    exact ⟨v, by rw [Sem.run_bind, hv]; rfl, hr⟩
  · rename_i x
    obtain ⟨hr, a, ha⟩ := s_nil hp.2 ((h.opd x).strip hp.1)
    exact ⟨.pointer (some a), by rw [ha]; rfl, by rw [← ha]; exact hr⟩
  · rename_i fn first caps
    refine ⟨_, rfl, .fv (by simp) (by simp) (fun i v y hv hy => ?_) (fun i v y hv hy => ?_)⟩
    · simp only [Array.getElem?_map, Option.map_eq_some_iff, List.getElem?_map, Array.getElem?_toList] at hv hy
      obtain ⟨x, hx, rfl⟩ := hv
      obtain ⟨x', hx', rfl⟩ := hy
      rw [hx] at hx'; simp only [Option.some.injEq] at hx'; subst hx'; exact h.opd x
    · simp only [Array.getElem?_map, Option.map_eq_some_iff, List.getElem?_map, Array.getElem?_toList] at hv hy
      obtain ⟨x, hx, rfl⟩ := hv
      obtain ⟨x', hx', rfl⟩ := hy
      rw [hx] at hx'; simp only [Option.some.injEq] at hx'; subst hx'; exact h.opd x
  · rename_i t parts
    obtain ⟨v, hv, hr⟩ := s_build (P := P) (w := w) (loc := loc) (ok := okOf c w σ.hp loc) (t := t) (parts := parts.toList.map fun p => (p.1, σ.opd p.2)) (vals := parts.toList.map fun p => (p.1, evalR ρ p.2)) (by simp)
      (fun k p q h1 h2 => by
        simp only [List.getElem?_map, Option.map_eq_some_iff] at h1 h2
        obtain ⟨a, ha, rfl⟩ := h1
        obtain ⟨b, hb, rfl⟩ := h2
        rw [ha] at hb; simp only [Option.some.injEq] at hb; subst hb
        exact ⟨rfl, h.opd _⟩) hp
    have he : (parts.toList.map fun p => (p.1, evalR ρ p.2)).toArray = parts.map fun p => (p.1, evalR ρ p.2) := by
      apply Array.ext'; simp
    rw [he] at hv
    exact ⟨v, by rw [Sem.run_bind, hv]; rfl, hr⟩
  · rename_i cl
    obtain ⟨callee, args, ats⟩ := cl
    simp only at hq ⊢
    obtain ⟨args, rfl⟩ : ∃ l : List Operand, args = l.toArray := ⟨args.toList, by simp⟩
    obtain ⟨ats, rfl⟩ : ∃ l : List TypeId, ats = l.toArray := ⟨ats.toList, by simp⟩
    simp only at hq
    unfold fCall at hq
    split at hq <;> first | (cases hq; done) | skip
    all_goals (simp only [Option.some.injEq] at hq; subst hq)
    · rename_i x t
      obtain ⟨v, hv, hr⟩ := s_len (w := w) (ty := type) hp.2 ((h.opd x).strip hp.1)
      refine ⟨v, ?_, hr⟩
      simp only [resolve, invoke, builtin, Sem.run_bind, Sem.run_pure, Result.andThen_ok, List.map_toArray, List.map_cons, List.map_nil, hv]
    · rename_i x y
      have hx := (h.opd x).strip hp.1
      have hy := (h.opd y).strip hp.2.1
      have hm := hp.2.2
      simp only [st2] at hm ⊢
      unfold fMin at hm ⊢
      split at hm
      · rename_i k a k' b e1 e2
        rw [e1] at hx; rw [e2] at hy
        refine ⟨.int k (min a b), ?_, .int _ _⟩
        simp only [resolve, invoke, builtin, Sem.run_bind, Sem.run_pure, Result.andThen_ok, List.map_toArray, List.map_cons, List.map_nil, hx.inv_int, hy.inv_int, Builtin.min_, List.foldlM, Builtin.min2]
        congr 3
        rw [Int.min_def]
        split <;> split <;> omega
      · exact hm.elim
    · rename_i x y
      have hx := (h.opd x).strip hp.1
      have hy := (h.opd y).strip hp.2.1
      have hm := hp.2.2
      simp only [st2] at hm ⊢
      unfold fMax at hm ⊢
      split at hm
      · rename_i k a k' b e1 e2
        rw [e1] at hx; rw [e2] at hy
        refine ⟨.int k (max a b), ?_, .int _ _⟩
        simp only [resolve, invoke, builtin, Sem.run_bind, Sem.run_pure, Result.andThen_ok, List.map_toArray, List.map_cons, List.map_nil, hx.inv_int, hy.inv_int, Builtin.max_, List.foldlM, Builtin.max2]
        congr 3
        rw [Int.max_def]
        split <;> split <;> omega
      · exact hm.elim

end
end Go.Fw

/- What is shown of an operation suffices. -/
namespace Go.Fw
open Go

def updO (ρ : Nat → Value) (dst : Option Nat) (v : Value) : Nat → Value := match dst with | some t => upd ρ t v | none => ρ

section
variable {P : Program} {c : Ctx} {σ : AS} {ρ : Nat → Value} {w : World} {loc : Nat → Option (Nat × Nat)}

theorem RepL.putO (h : RepL P c σ ρ w [] [] loc) (dst : Option Nat) {v : Value} {x : AV} (hv : RepA P w (okOf c w σ.hp loc) loc v x) : RepL P c (σ.put dst x) (updO ρ dst v) w [] [] loc := by
  cases dst with
  | none => exact h
  | some t => exact h.put t hv

theorem stripsP_get : ∀ {l : List AV}, stripsP l → ∀ (i : Nat) x, l[i]? = some x → x.strip.1
  | [], _, i, x, hx => by simp at hx
  | y :: r, h, 0, x, hx => by simp at hx; subst hx; exact h.1
  | y :: r, h, i + 1, x, hx => by simp at hx; exact stripsP_get h.2 i x hx

/-- Operands of a call. -/
theorem RepL.args (h : RepL P c σ ρ w [] [] loc) (l : List Operand) (hs : stripsP (l.map σ.opd)) :
    (l.map (evalR ρ)).length = (strips (l.map σ.opd)).length ∧ ∀ (i : Nat) v x, (l.map (evalR ρ))[i]? = some v → (strips (l.map σ.opd))[i]? = some x → RepA P w (okOf c w σ.hp loc) loc v x := by
  refine ⟨by simp [strips], fun i v x hv hx => ?_⟩
  simp only [strips, List.getElem?_map, Option.map_eq_some_iff] at hv hx
  obtain ⟨a, ha, rfl⟩ := hv
  obtain ⟨b, ⟨b', hb', rfl⟩, rfl⟩ := hx
  rw [ha] at hb'; simp only [Option.some.injEq] at hb'; subst hb'
  exact (h.opd a).strip (stripsP_get hs i _ (by simp [ha]))

theorem run_enter {f : FuncId} (hc : callable P f = true) (args : Array Value) : (callFunc f args).run P w = .ok (.enter f args) w := by
  unfold callable at hc
  split at hc
  · rename_i fn hf
    simp only [Bool.and_eq_true, Bool.not_eq_true'] at hc
    have hb : fn.body.isNone = false := by
      cases hb : fn.body with
      | none => rw [hb] at hc; exact absurd hc.2 (by simp)
      | some b => rfl
    simp only [callFunc, Sem.run_bind, run_program, Result.andThen_ok, hf, hc.1, Bool.false_eq_true, if_false, hb, Sem.run_pure]
  · cases hc

theorem run_call {ρ : Nat → Value} {o : Oper} {cl : Call} {f : Operand} (ho : o.op = .call cl) (hcal : cl.callee = .value f) {g : FuncId} {fst cap : Array Value} (hf : evalR ρ f = .func (.func g) fst cap) (hc : callable P g = true) :
    (execOp (evalR ρ) o).run P w = .ok (.enter g (fst ++ cl.args.map (evalR ρ) ++ cap)) w := by
  simp only [execOp, ho, resolve, hcal, hf, Deferred.ofValue, Sem.run_bind, Sem.run_pure, Result.andThen_ok, invoke]
  exact run_enter hc _

/-- What is shown of a call suffices. -/
theorem vcCall_sound {N : Act → World → Prop} {Q : Exit → Act → World → Prop} {a : Act} {o : Oper} {cl : Call} {f : Operand} (ho : o.op = .call cl) (hcal : cl.callee = .value f)
    (h : RepL P c σ (fun s => a.tmps.getD s undef) w [] [] loc) (hs : (σ.opd f).strip.1) (hss : stripsP (cl.args.toList.map σ.opd)) {K : AV → AS → Prop} (hv : vcCall P σ (σ.opd f).strip.2 (strips (cl.args.toList.map σ.opd)) K)
    (hnext : ∀ x σ' v w' loc', K x σ' → RepL P c σ' (fun s => a.tmps.getD s undef) w' [v] [x] loc' → N (a.put o.dst v) w') : o.wp P a w N Q := by
  have heval : a.eval = evalR (fun s => a.tmps.getD s undef) := by funext x; cases x <;> rfl
  obtain ⟨al, ag⟩ := h.args cl.args.toList hss
  have hf := (h.opd f).strip hs
  unfold vcCall at hv
  split at hv
  · rename_i g first caps e
    rw [e] at hf
    obtain ⟨hcb, hv⟩ := hv
    generalize hval : evalR (fun s => a.tmps.getD s undef) f = fval at hf
    cases hf with | @fv _ fst cap _ _ h1 h2 h3 h4 =>
    have hrun := run_call (P := P) (w := w) (ρ := fun s => a.tmps.getD s undef) ho hcal hval hcb
    unfold Oper.wp
    rw [heval, hrun, Oper.upon_enter]
    have hall : RepL P c σ (fun s => a.tmps.getD s undef) w (fst.toList ++ cl.args.toList.map (evalR (fun s => a.tmps.getD s undef)) ++ cap.toList) (first ++ strips (cl.args.toList.map σ.opd) ++ caps) loc := by
      refine h.setVals (by simp only [List.length_append, Array.length_toList, al]; omega) fun i v x hv1 hx1 => ?_
      rw [List.getElem?_append] at hv1 hx1
      have e1 : (fst.toList ++ cl.args.toList.map (evalR (fun s => a.tmps.getD s undef))).length = (first ++ strips (cl.args.toList.map σ.opd)).length := by simp only [List.length_append, Array.length_toList, al]; omega
      rw [e1] at hv1
      split at hv1
      · rename_i hi
        rw [if_pos hi] at hx1
        rw [List.getElem?_append] at hv1 hx1
        have e2 : fst.toList.length = first.length := by simpa using h1
        rw [e2] at hv1
        split at hv1
        · rename_i hi2
          rw [if_pos hi2] at hx1
          exact h3 i v x (by rwa [Array.getElem?_toList] at hv1) hx1
        · rename_i hi2
          rw [if_neg hi2] at hx1
          exact ag _ v x hv1 hx1
      · rename_i hi
        rw [if_neg hi] at hx1
        exact h4 _ v x (by rwa [Array.getElem?_toList] at hv1) hx1
    have hargs : (fst.toList ++ cl.args.toList.map (evalR (fun s => a.tmps.getD s undef)) ++ cap.toList).toArray = fst ++ cl.args.map (evalR (fun s => a.tmps.getD s undef)) ++ cap := by
      apply Array.ext'; simp
    have := hv c _ w _ loc hall
    rw [hargs] at this
    refine this.mono fun e w' ⟨v, x, σ', loc', he, hk, hr⟩ => ?_
    subst he
    exact hnext x σ' v w' loc' hk hr
  · rename_i S e
    rw [e] at hf
    split at hv
    · rename_i p ds l hd
      obtain ⟨hp, hS⟩ := hv
      generalize hval : evalR (fun s => a.tmps.getD s undef) f = fval at hf
      cases hf with | clo hclo =>
      obtain ⟨g, fst, cap, rfl, hcb, H⟩ := hclo
      have hrun := run_call (P := P) (w := w) (ρ := fun s => a.tmps.getD s undef) ho hcal hval hcb
      unfold Oper.wp
      rw [heval, hrun, Oper.upon_enter]
      obtain ⟨d1, d2⟩ := toDA_rep h hd hp (l' := l) fun i hi => hi
      have := H w (okOf c w (σ.hp.dropL l) loc) (fun b hb => ⟨hb.dropL l, rfl⟩) (fun b hb => hb.1) ds (cl.args.toList.map (evalR (fun s => a.tmps.getD s undef))) (fun y => K (.d y) σ) (by rw [al, d1])
        (fun i v x hv1 hx1 => by
          have hlt : i < (strips (cl.args.toList.map σ.opd)).length := by rw [← al]; exact (List.getElem?_eq_some_iff.1 hv1).1
          exact d2 i v _ x (List.getElem?_eq_getElem hlt) hx1 (ag i v _ hv1 (List.getElem?_eq_getElem hlt))) hS
      have hargs : (cl.args.toList.map (evalR (fun s => a.tmps.getD s undef))).toArray = cl.args.map (evalR (fun s => a.tmps.getD s undef)) := by apply Array.ext'; simp
      rw [hargs] at this
      refine this.mono fun e w' ⟨v, x, he, hf, hr, hk, hx⟩ => ?_
      subst he
      exact hnext (.d x) σ v w' loc hk ((h.ext' hx).setVal1 (.d (hr.of_flat hf)))
    · exact hv.elim
  · exact hv.elim

end
end Go.Fw

/- What is shown of an operation suffices: the others, and guards. -/
namespace Go.Fw
open Go

/-- A frame in a state. -/
structure Good (P : Program) (c : Ctx) (n : Nat) (σ : AS) (a : Act) (w : World) : Prop where
  rep : ∃ loc, RepL P c σ (fun s => a.tmps.getD s undef) w [] [] loc
  size : a.tmps.size = n
  defers : a.defers = []

section
variable {P : Program} {c : Ctx} {σ : AS} {w : World} {loc : Nat → Option (Nat × Nat)} {n : Nat}

theorem act_eval (a : Act) : a.eval = evalR (fun s => a.tmps.getD s undef) := by funext x; cases x <;> rfl

theorem put_getD (a : Act) (dst : Option Nat) (v : Value) (hd : ∀ t, dst = some t → t < a.tmps.size) : (fun s => (a.put dst v).tmps.getD s undef) = updO (fun s => a.tmps.getD s undef) dst v := by
  cases dst with
  | none => rfl
  | some t =>
    have ht := hd t rfl
    funext s
    simp only [Act.put, updO, upd]
    by_cases hs : s = t
    · subst hs; simp [ht]
    · simp [hs, Array.getElem?_setIfInBounds_ne (Ne.symm hs)]

theorem put_size (a : Act) (dst : Option Nat) (v : Value) : (a.put dst v).tmps.size = a.tmps.size := by cases dst <;> simp [Act.put]
theorem put_defers (a : Act) (dst : Option Nat) (v : Value) : (a.put dst v).defers = a.defers := by cases dst <;> rfl

theorem Good.put {a : Act} {v : Value} {x : AV} {dst : Option Nat} (hd : ∀ t, dst = some t → t < n) (hs : a.tmps.size = n) (hdf : a.defers = [])
    (h : RepL P c σ (fun s => a.tmps.getD s undef) w [v] [x] loc) : Good P c n (σ.put dst x) (a.put dst v) w := by
  refine ⟨⟨loc, ?_⟩, by rw [put_size, hs], by rw [put_defers, hdf]⟩
  rw [put_getD a dst v (by rw [hs]; exact hd)]
  exact (h.vals0).putO dst h.val1

theorem upon_val {o : Oper} {a : Act} {N : Act → World → Prop} {Q : Exit → Act → World → Prop} {v : Value} {w' : World} (h : (execOp a.eval o).run P w = .ok (.value v) w') (hn : N (a.put o.dst v) w') : o.wp P a w N Q := by
  unfold Oper.wp; rw [h]; exact hn

theorem newElem_ok {old : D} {off n sz : Nat} {dx : D} (ho : old.fits sz) (hx : dx.fits n) (hon : off + n ≤ sz) (hn0 : 0 < n) :
    (newElem old off n sz dx).fits sz ∧ ∀ j z, (newElem old off n sz dx).cells[j]? = some z → (off ≤ j ∧ j < off + n ∧ dx.cells[j - off]? = some z) ∨ (¬ (off ≤ j ∧ j < off + n) ∧ old.cells[j]? = some z) := by
  have dl : ∀ (ys : List D) (o : Nat) (cs : List D), (dsets o ys cs).length = cs.length := by
    intro ys; induction ys with
    | nil => intros; rfl
    | cons y r ih => intro o cs; simp [dsets, ih]
  have dg : ∀ (ys : List D) (o : Nat) (cs : List D), o + ys.length ≤ cs.length → ∀ j : Nat, (dsets o ys cs)[j]? = if o ≤ j ∧ j < o + ys.length then ys[j - o]? else cs[j]? := by
    intro ys; induction ys with
    | nil => intro o cs _ j; simp [dsets]; omega
    | cons y r ih =>
      intro o cs h j
      simp only [List.length_cons] at h
      rw [dsets, ih (o + 1) (cs.set o y) (by simp; omega) j]
      simp only [List.length_cons]
      by_cases h1 : o + 1 ≤ j ∧ j < o + 1 + r.length
      · rw [if_pos h1, if_pos (by omega), show j - o = (j - (o + 1)) + 1 by omega, List.getElem?_cons_succ]
      · rw [if_neg h1]
        by_cases h2 : j = o
        · subst h2; rw [if_pos (by omega), Nat.sub_self, List.getElem?_cons_zero, List.getElem?_set_self (by omega)]
        · rw [if_neg (by omega), List.getElem?_set_ne (by omega)]
  unfold newElem
  by_cases hw : n = sz ∧ off = 0
  · rw [if_pos hw]
    obtain ⟨rfl, rfl⟩ := hw
    refine ⟨hx, fun j z hz => .inl ⟨Nat.zero_le _, ?_, by simpa using hz⟩⟩
    have := (List.getElem?_eq_some_iff.1 hz).1
    rw [hx.1] at this; omega
  · rw [if_neg hw]
    split
    · rename_i cs
      have hcl : cs.length = sz := ho.1
      have hg := dg dx.cells off cs (by rw [hx.1, hcl]; exact hon)
      rw [hx.1] at hg
      have key : ∀ (j : Nat) z, (dsets off dx.cells cs)[j]? = some z → (off ≤ j ∧ j < off + n ∧ dx.cells[j - off]? = some z) ∨ (¬ (off ≤ j ∧ j < off + n) ∧ cs[j]? = some z) := fun j z hz => by
        rw [hg j] at hz
        by_cases hj : off ≤ j ∧ j < off + n
        · rw [if_pos hj] at hz; exact .inl ⟨hj.1, hj.2, hz⟩
        · rw [if_neg hj] at hz; exact .inr ⟨hj, hz⟩
      refine ⟨⟨by simp only [D.cells, dl, hcl], fun y hy => ?_⟩, fun j z hz => key j z hz⟩
      obtain ⟨j, hj⟩ := List.mem_iff_getElem?.1 hy
      rcases key j y hj with ⟨_, _, h3⟩ | ⟨_, h3⟩
      · exact hx.2 y (List.mem_of_getElem? h3)
      · exact ho.2 y (List.mem_of_getElem? h3)
    · rename_i hna
      exfalso
      have h1 : sz = 1 := by rw [← ho.1]; cases old <;> first | rfl | (exact absurd rfl (hna _))
      exact hw ⟨by omega, by omega⟩

theorem vcStore_sound {t : TypeId} {a x : AV} {va v : Value} {K : AS → Prop} {ρ : Nat → Value} (h : RepL P c σ ρ w [] [] loc) (ha : RepA P w (okOf c w σ.hp loc) loc va a) (hx : RepA P w (okOf c w σ.hp loc) loc v x)
    (hv : vcStore P σ t a x K) : ∃ w' σ' loc', (Instr.storeAt t va v).run P w = .ok () w' ∧ K σ' ∧ RepL P c σ' ρ w' [] [] loc' := by
  unfold vcStore at hv
  split at hv
  · rename_i id off
    split at hv
    · rename_i cs ag m z ys hh ht hc
      obtain ⟨⟨h1, h2, h3⟩, hK⟩ := hv
      obtain ⟨w', r1, r2⟩ := h.store hh ha ht hx hc h1 h2 h3
      exact ⟨w', _, loc, r1, hK, r2⟩
    · exact hv.elim
  · rename_i sz id i off
    split at hv
    · rename_i sz' zs ag m z p dx l hh ht hd
      obtain ⟨⟨hp, h1, rfl, h3, h4, h5, h6⟩, hK⟩ := hv
      have hget : zs[i]? = some (zs.getD i D.dflt) := by simp [List.getD, List.getElem?_eq_getElem h3]
      have hfit : (zs.getD i D.dflt).fits sz := by
        cases h.heap id _ hh with
        | ar0 _ _ => simp at h3
        | ar us _ _ _ hs _ _ => exact hs _ (List.mem_of_getElem? hget)
      obtain ⟨g1, g2⟩ := newElem_ok hfit h5 h6 h4
      obtain ⟨w', r1, r2⟩ := h.storeElem hh ha ht hx hd hp h1 h3 (by omega) h5 hget h6 g1 g2
      exact ⟨w', _, loc, r1, hK, r2⟩
    · rename_i cs ag m z hh ht
      split at hv
      · rename_i ys hc
        obtain ⟨⟨h1, h2, h3⟩, hK⟩ := hv
        have ha' : RepA P w (okOf c w σ.hp loc) loc va (.ptr id (i * sz + off)) := by
          cases ha with | ep hl => rw [Nat.add_assoc]; exact .ptr hl
        obtain ⟨w', r1, r2⟩ := h.store hh ha' ht hx hc h1 h2 h3
        exact ⟨w', _, loc, r1, hK, r2⟩
      · exact hv.elim
    · exact hv.elim
  · exact hv.elim

theorem tElem_e {t : TypeId} {es by' : Nat} {e : TypeId} (h : tElem P t = some (es, by', e)) : True := trivial

theorem vcAppL_sound {t t2 ty : TypeId} {s x : AV} {vs vx : Value} {dst : Option Nat} {K : AS → Prop} {ρ : Nat → Value} (h : RepL P c σ ρ w [] [] loc) (ha : RepA P w (okOf c w σ.hp loc) loc vs s) (hx : RepA P w (okOf c w σ.hp loc) loc vx x)
    (hv : vcAppL σ dst s x (tElem P t) (tElem P t2) (tI P) K) : ∃ v y w' σ' loc', (Builtin.append_ #[t, t2] ty #[vs, vx]).run P w = .ok v w' ∧ K (σ'.put dst y) ∧ RepL P c σ' ρ w' [v] [y] loc' := by
  unfold vcAppL at hv
  split at hv
  · rename_i sz2 id off2 m es by' e q ht ht2
    split at hv
    · rename_i ds ag n z hid hz
      obtain ⟨⟨rfl, rfl, rfl, hzl, hm, hpos⟩, hv⟩ := hv
      split at hv
      · split at hv
        · rename_i k
          obtain ⟨⟨h1, h5, h6⟩, hK⟩ := hv
          cases ha
          obtain ⟨v, w', loc', r, r1, r2, r3⟩ := h.appendNilL (100 * k) h1 (ty := ty) ht ht2 hz hzl hid hm hx hpos h5 h6
          exact ⟨v, _, w', _, loc', r1, hK r, r2.setVal1 r3⟩
        · exact hv.elim
      · rename_i sz k off len
        split at hv
        · rename_i cs hh
          obtain ⟨⟨h0, rfl, rfl, h1, h2, h5, h6⟩, hK⟩ := hv
          obtain ⟨v, w', loc', r, r1, r2, r3⟩ := h.appendL h0 (ty := ty) ht ht2 hz hzl hh h1 ha hid hm hx h2 hpos h5 h6
          exact ⟨v, _, w', _, loc', r1, hK r, r2.setVal1 r3⟩
        · exact hv.elim
      · exact hv.elim
    · exact hv.elim
  · exact hv.elim

theorem vcAppend_sound {t t2 ty : TypeId} {s x : AV} {vs vx : Value} {dst : Option Nat} {K : AS → Prop} {ρ : Nat → Value} (h : RepL P c σ ρ w [] [] loc) (ha : RepA P w (okOf c w σ.hp loc) loc vs s) (hx : RepA P w (okOf c w σ.hp loc) loc vx x)
    (hv : vcAppend P σ dst t t2 s x K) : ∃ v y w' σ' loc', (Builtin.append_ #[t, t2] ty #[vs, vx]).run P w = .ok v w' ∧ K (σ'.put dst y) ∧ RepL P c σ' ρ w' [v] [y] loc' := by
  unfold vcAppend at hv
  split at hv
  · rename_i p ys es by' e q hs ht ht2
    split at hv
    · rename_i ag m z hz
      split at hv
      · split at hv
        · rename_i k
          obtain ⟨⟨h1, hp, h2, h3, h4, h5, h6⟩, hK⟩ := hv
          cases ha
          obtain ⟨v, w', loc', r1, r2, r3⟩ := h.appendNil (100 * k) h1 (ty := ty) ht ht2 hz h2 h3 hs hp hx h4 h5 h6
          exact ⟨v, _, w', _, loc', r1, hK, r2.setVal1 r3⟩
        · exact hv.elim
      · rename_i sz id off len
        split at hv
        · rename_i sz' zs hh
          obtain ⟨⟨h0, hp, rfl, rfl, h1, h2, h3, h4, h5, h6⟩, hK⟩ := hv
          obtain ⟨v, w', loc', r1, r2, r3⟩ := h.append h0 (ty := ty) ht ht2 hz h2 h3 hh h1 ha hs hp hx h4 h5 h6
          exact ⟨v, _, w', _, loc', r1, hK, r2.setVal1 r3⟩
        · exact hv.elim
      · exact hv.elim
    · exact hv.elim
  · exact vcAppL_sound h ha hx hv
  · exact hv.elim

theorem vcCopy_sound {t t2 ty : TypeId} {s x : AV} {vs vx : Value} {dst : Option Nat} {K : AS → Prop} {ρ : Nat → Value} (h : RepL P c σ ρ w [] [] loc) (ha : RepA P w (okOf c w σ.hp loc) loc vs s) (hx : RepA P w (okOf c w σ.hp loc) loc vx x)
    (hv : vcCopy P σ dst t s x K) : ∃ v y w' σ' loc', (Builtin.copy_ #[t, t2] ty #[vs, vx]).run P w = .ok v w' ∧ K (σ'.put dst y) ∧ RepL P c σ' ρ w' [v] [y] loc' := by
  unfold vcCopy at hv
  split at hv
  · rename_i p ys es by' e sz id off dl hs ht
    split at hv
    · rename_i sz' zs hh
      obtain ⟨⟨hp, rfl, rfl, rfl, h1, h2, h3⟩, hK⟩ := hv
      obtain ⟨w', r1, r2⟩ := h.copy hh ha h1 (t2 := t2) (ty := ty) ht hs hp hx h2 h3
      exact ⟨_, _, w', _, loc, r1, hK, r2.setVal1 (.int _ _)⟩
    · exact hv.elim
  · exact hv.elim

theorem vcMapPut_sound {t : TypeId} {m k x : AV} {vm vk vx : Value} {K : AS → Prop} {ρ : Nat → Value} (h : RepL P c σ ρ w [] [] loc) (hm : RepA P w (okOf c w σ.hp loc) loc vm m) (hk : RepA P w (okOf c w σ.hp loc) loc vk k) (hx : RepA P w (okOf c w σ.hp loc) loc vx x)
    (hv : vcMapPut σ (tMapI P t) m k x K) : ∃ w' σ', (Instr.mapUpdate t vm vk vx).run P w = .ok () w' ∧ K σ' ∧ RepL P c σ' ρ w' [] [] loc := by
  unfold vcMapPut at hv
  split at hv
  · rename_i kk ik id kd xd ht
    split at hv
    · rename_i es hid
      obtain ⟨⟨h1, h2, h3⟩, hK⟩ := hv
      obtain ⟨w', r1, r2⟩ := h.mapPut hid ht hm hk hx h1 h2 h3
      exact ⟨w', _, r1, hK, r2⟩
    · exact hv.elim
  · exact hv.elim

/-- What is shown of an operation that makes or writes memory, or of a call, suffices. -/
theorem vcAct_sound {fz : List Nat} {a : Act} {o : Oper} {K : AS → Prop} {N : Act → World → Prop} {Q : Exit → Act → World → Prop} (h : RepL P c σ (fun s => a.tmps.getD s undef) w [] [] loc) (hd : ∀ t, o.dst = some t → t < n) (hs : a.tmps.size = n) (hdf : a.defers = [])
    (hv : vcAct P fz σ o.dst o.op K) (hnext : ∀ σ' a' w', K σ' → Good P c n σ' a' w' → N a' w') : o.wp P a w N Q := by
  have heval := act_eval a
  have hcallop : ∀ cl, o.op = .call cl → vcCallOp P σ o.dst cl.callee cl.args.toList cl.argTypes.toList K → o.wp P a w N Q := by
    clear hv
    intro cl hop hv
    unfold vcCallOp at hv
    split at hv
    · rename_i s x t t2 e1 e2 e3
      obtain ⟨p1, p2, hv⟩ := hv
      obtain ⟨v, y, w', σ', loc', r1, r2, r3⟩ := vcAppend_sound (ty := o.type) h ((h.opd s).strip p1) ((h.opd x).strip p2) hv
      refine upon_val (v := v) (w' := w') ?_ (hnext _ _ _ r2 (.put hd hs hdf r3))
      have a1 : cl.args = #[s, x] := by rw [← Array.toArray_toList (xs := cl.args), e2]
      have a2 : cl.argTypes = #[t, t2] := by rw [← Array.toArray_toList (xs := cl.argTypes), e3]
      rw [heval]
      simp only [execOp, hop, resolve, e1, a1, a2, invoke, builtin, Sem.run_bind, Sem.run_pure, Result.andThen_ok, List.map_toArray, List.map_cons, List.map_nil, r1]
    · rename_i f args ats e1
      obtain ⟨p1, p2, hv⟩ := hv
      exact vcCall_sound hop e1 h p1 p2 hv fun x σ' v w' loc' hk hr => hnext _ _ _ hk (.put hd hs hdf hr)
    · rename_i s x t t2 e1 e2 e3
      obtain ⟨p1, p2, hv⟩ := hv
      obtain ⟨v, y, w', σ', loc', r1, r2, r3⟩ := vcCopy_sound (t2 := t2) (ty := o.type) h ((h.opd s).strip p1) ((h.opd x).strip p2) hv
      refine upon_val (v := v) (w' := w') ?_ (hnext _ _ _ r2 (.put hd hs hdf r3))
      have a1 : cl.args = #[s, x] := by rw [← Array.toArray_toList (xs := cl.args), e2]
      have a2 : cl.argTypes = #[t, t2] := by rw [← Array.toArray_toList (xs := cl.argTypes), e3]
      rw [heval]
      simp only [execOp, hop, resolve, e1, a1, a2, invoke, builtin, Sem.run_bind, Sem.run_pure, Result.andThen_ok, List.map_toArray, List.map_cons, List.map_nil, r1]
    · exact hv.elim
  obtain ⟨dst, op, type, pos, aft, guard⟩ := o
  simp only at hv hd hcallop
  unfold vcAct at hv
  split at hv <;> first | (exact hv.elim) | skip
  · rename_i K' t
    split at hv
    · rename_i k ag m z ht
      obtain ⟨h1, hK⟩ := hv
      obtain ⟨v, w', loc', r1, r2, r3⟩ := h.alloc (bId k) h1 ht
      refine upon_val (v := v) (w' := w') ?_ (hnext _ _ _ hK (.put hd hs hdf (r2.setVal1 r3)))
      simp only [execOp, Sem.run_bind, r1, Result.andThen_ok, Sem.run_pure]
    · exact hv.elim
  · rename_i K' t x
    split at hv
    · rename_i k ys hc
      obtain ⟨p1, hv⟩ := hv
      split at hv
      · obtain ⟨u, w', r1, r2, r3⟩ := h.boxDp t ((h.opd x).strip p1) hc
        refine upon_val (v := u) (w' := w') ?_ (hnext _ _ _ hv (.put hd hs hdf (r2.setVal1 r3)))
        rw [heval]
        simp only [execOp, Sem.run_bind, r1, Result.andThen_ok, Sem.run_pure]
      · obtain ⟨h1, hK⟩ := hv
        obtain ⟨u, w', loc', r1, r2, r3⟩ := h.box (100 * k) h1 t ((h.opd x).strip p1) hc
        refine upon_val (v := u) (w' := w') ?_ (hnext _ _ _ hK (.put hd hs hdf (r2.setVal1 r3)))
        rw [heval]
        simp only [execOp, Sem.run_bind, r1, Result.andThen_ok, Sem.run_pure]
    · exact hv.elim
  · rename_i K' t x y
    obtain ⟨rfl, p1, p2, hv⟩ := hv
    obtain ⟨w', σ', loc', r1, r2, r3⟩ := vcStore_sound h ((h.opd x).strip p1) ((h.opd y).strip p2) hv
    unfold Oper.wp
    rw [heval]
    have : (execOp (evalR fun s => a.tmps.getD s undef) { dst := none, op := .store t x y, type, pos, after := aft, guard }).run P w = .ok .skip w' := by
      simp only [execOp, Sem.run_bind, r1, Result.andThen_ok, Sem.run_pure]
    rw [this, Oper.upon_skip]
    exact hnext _ _ _ r2 ⟨⟨loc', r3⟩, hs, hdf⟩
  · rename_i K' t len parts
    split at hv
    · rename_i hcon
      clear hcon
      unfold vcBuildL at hv
      split at hv
      · rename_i k es by' e ht
        split at hv
        · rename_i q hz
          obtain ⟨ag, m, z⟩ := q
          obtain ⟨⟨h1, h2, h3, h4, rfl, h6, h7⟩, hK⟩ := hv
          subst h4
          have hl : (parts.toList.map fun p => (p.1, evalR (fun s => a.tmps.getD s undef) p.2)).length = parts.size := by simp
          obtain ⟨v, w', loc', r1, r2, r3⟩ := h.buildSliceL (100 * k) h1 ht hz (ps := parts.toList.map fun p => (p.1, evalR (fun s => a.tmps.getD s undef) p.2)) (avs := strips (parts.toList.map fun p => σ.opd p.2))
            (by rw [hl, ← h3]; simp [Function.comp_def]) (by simp [strips])
            (fun i p x hp hx => by
              simp only [strips, List.getElem?_map, Option.map_eq_some_iff] at hp hx
              obtain ⟨q, hq, rfl⟩ := hp
              obtain ⟨y, ⟨q', hq', rfl⟩, rfl⟩ := hx
              rw [hq] at hq'; simp only [Option.some.injEq] at hq'; subst hq'
              exact (h.opd q.2).strip (stripsP_get h2 i _ (by simp [hq]))) h6 (by rw [hl]; exact h7)
          rw [hl] at r1 r3
          refine upon_val (v := v) (w' := w') ?_ (hnext _ _ _ hK (.put hd hs hdf (r2.setVal1 r3)))
          have he : (parts.toList.map fun p => (p.1, evalR (fun s => a.tmps.getD s undef) p.2)).toArray = parts.map fun p => (p.1, evalR (fun s => a.tmps.getD s undef) p.2) := by
            apply Array.ext'; simp
          rw [he] at r1
          rw [heval]
          simp only [execOp, Sem.run_bind, Result.andThen_ok, Sem.run_pure]
          rw [show (parts.map fun x => match x with | (i, x) => (i, evalR (fun s => a.tmps.getD s undef) x)) = parts.map fun p => (p.1, evalR (fun s => a.tmps.getD s undef) p.2) from rfl, r1]
          rfl
        · exact hv.elim
      · exact hv.elim
    rename_i hcon
    clear hcon
    split at hv
    · rename_i k es by' e ht
      split at hv
      · rename_i q p ys l hz hda
        obtain ⟨ag, m, z⟩ := q
        obtain ⟨⟨h1, h2, h3, h4, hp, h5, h6, h7⟩, hK⟩ := hv
        subst h4
        have hl : (parts.toList.map fun p => (p.1, evalR (fun s => a.tmps.getD s undef) p.2)).length = parts.size := by simp
        obtain ⟨v, w', loc', r1, r2, r3⟩ := h.buildSlice (100 * k) h1 ht hz (ps := parts.toList.map fun p => (p.1, evalR (fun s => a.tmps.getD s undef) p.2)) (avs := strips (parts.toList.map fun p => σ.opd p.2))
          (by rw [hl, ← h3]; simp [Function.comp_def]) (by simp [strips])
          (fun i p x hp hx => by
            simp only [strips, List.getElem?_map, Option.map_eq_some_iff] at hp hx
            obtain ⟨q, hq, rfl⟩ := hp
            obtain ⟨y, ⟨q', hq', rfl⟩, rfl⟩ := hx
            rw [hq] at hq'; simp only [Option.some.injEq] at hq'; subst hq'
            exact (h.opd q.2).strip (stripsP_get h2 i _ (by simp [hq]))) hda hp h5 h6 (by rw [hl]; exact h7)
        rw [hl] at r1 r3
        refine upon_val (v := v) (w' := w') ?_ (hnext _ _ _ hK (.put hd hs hdf (r2.setVal1 r3)))
        have he : (parts.toList.map fun p => (p.1, evalR (fun s => a.tmps.getD s undef) p.2)).toArray = parts.map fun p => (p.1, evalR (fun s => a.tmps.getD s undef) p.2) := by
          apply Array.ext'; simp
        rw [he] at r1
        rw [heval]
        simp only [execOp, Sem.run_bind, Result.andThen_ok, Sem.run_pure]
        rw [show (parts.map fun x => match x with | (i, x) => (i, evalR (fun s => a.tmps.getD s undef) x)) = parts.map fun p => (p.1, evalR (fun s => a.tmps.getD s undef) p.2) from rfl, r1]
        rfl
      · exact hv.elim
    · exact hv.elim
  · rename_i K' t l cp
    split at hv
    · rename_i hcon
      clear hcon
      unfold vcMakeL at hv
      split at hv
      · rename_i k es by' e kl m kc q ht e1 e2
        split at hv
        · rename_i ag m' z hz
          obtain ⟨⟨h1, p1, p2, h2, rfl, h4, h5, h6, h7⟩, hK⟩ := hv
          obtain ⟨v, w', loc', r1, r2, r3⟩ := h.makeSliceL (100 * k) h1 ht hz h6 h7 kl kc h2 h4 h5
          have v1 := (h.opd l).strip p1
          have v2 := (h.opd cp).strip p2
          rw [e1] at v1; rw [e2] at v2
          refine upon_val (v := v) (w' := w') ?_ (hnext _ _ _ hK (.put hd hs hdf (r2.setVal1 r3)))
          rw [heval]
          simp only [execOp, Sem.run_bind, v1.inv_int, v2.inv_int, r1, Result.andThen_ok, Sem.run_pure]
        · exact hv.elim
      · exact hv.elim
    rename_i hcon
    clear hcon
    split at hv
    · rename_i k es by' e kl m kc q ht e1 e2
      split at hv
      · rename_i ag m' z hz
        split at hv
        · rename_i zd hzd
          obtain ⟨⟨h1, p1, p2, h2, h3, h4, h5, h6, h7⟩, hK⟩ := hv
          obtain ⟨v, w', loc', r1, r2, r3⟩ := h.makeSlice (100 * k) h1 ht hz hzd h6 h7 kl kc h2 h3 h4 h5
          have v1 := (h.opd l).strip p1
          have v2 := (h.opd cp).strip p2
          rw [e1] at v1; rw [e2] at v2
          refine upon_val (v := v) (w' := w') ?_ (hnext _ _ _ hK (.put hd hs hdf (r2.setVal1 r3)))
          rw [heval]
          simp only [execOp, Sem.run_bind, v1.inv_int, v2.inv_int, r1, Result.andThen_ok, Sem.run_pure]
        · exact hv.elim
      · exact hv.elim
    · exact hv.elim
  · rename_i K' cl
    exact hcallop cl rfl hv
  · rename_i K' t
    split at hv
    · rename_i k
      obtain ⟨h1, hK⟩ := hv
      obtain ⟨v, w', loc', r1, r2, r3⟩ := h.makeMap (100 * k) h1 t
      refine upon_val (v := v) (w' := w') ?_ (hnext _ _ _ hK (.put hd hs hdf (r2.setVal1 r3)))
      simp only [execOp, Option.map_none, Sem.run_bind, r1, Result.andThen_ok, Sem.run_pure]
    · exact hv.elim
  · rename_i K' t m k x
    obtain ⟨rfl, ⟨p1, p2, p3⟩, hv⟩ := hv
    obtain ⟨w', σ', r1, r2, r3⟩ := vcMapPut_sound h ((h.opd m).strip p1) ((h.opd k).strip p2) ((h.opd x).strip p3) hv
    unfold Oper.wp
    rw [heval]
    have : (execOp (evalR fun s => a.tmps.getD s undef) { dst := none, op := .insert t m k x, type, pos, after := aft, guard }).run P w = .ok .skip w' := by
      simp only [execOp, Sem.run_bind, r1, Result.andThen_ok, Sem.run_pure]
    rw [this, Oper.upon_skip]
    exact hnext _ _ _ r2 ⟨⟨loc, r3⟩, hs, hdf⟩
  · rename_i K' t m k x
    obtain ⟨rfl, ⟨p1, p2, p3⟩, hv⟩ := hv
    obtain ⟨w', σ', r1, r2, r3⟩ := vcMapPut_sound h ((h.opd m).strip p1) ((h.opd k).strip p2) ((h.opd x).strip p3) hv
    unfold Oper.wp
    rw [heval]
    have : (execOp (evalR fun s => a.tmps.getD s undef) { dst := none, op := .mapUpdate t m k x, type, pos, after := aft, guard }).run P w = .ok .skip w' := by
      simp only [execOp, Sem.run_bind, r1, Result.andThen_ok, Sem.run_pure]
    rw [this, Oper.upon_skip]
    exact hnext _ _ _ r2 ⟨⟨loc, r3⟩, hs, hdf⟩
  · rename_i K' t m k cok
    obtain ⟨⟨p1, p2⟩, hv⟩ := hv
    have hm := (h.opd m).strip p1
    have hk := (h.opd k).strip p2
    unfold vcMapGet at hv
    split at hv
    · rename_i kk ik id kd ht e1 e2
      split at hv
      · rename_i es hid
        obtain ⟨⟨h1, h2⟩, hK⟩ := hv
        rw [e1] at hm; rw [e2] at hk
        obtain ⟨v, r1, r2⟩ := h.mapGet hid ht hm hk h1 h2 cok
        refine upon_val (v := v) (w' := w) ?_ (hnext _ _ _ hK (.put hd hs hdf (h.setVal1 r2)))
        rw [heval]
        simp only [execOp, Sem.run_bind, r1, Result.andThen_ok, Sem.run_pure]
      · exact hv.elim
    · exact hv.elim

/-- One operation, the guard with it. -/
theorem vcOp_sound {fz : List Nat} {ops : Array Oper} {a : Act} {o : Oper} {K : AS → Prop} {N : Act → World → Prop} {Q : Exit → Act → World → Prop} (h : Good P c n σ a w) (hd : ∀ t, o.dst = some t → t < n) (hg : ∀ j b, o.guard = some (j, b) → ∀ t, (ops[j]?).bind (·.dst) = some t → t < n)
    (hv : vcOp P fz ops σ o K) (hnext : ∀ σ' a' w', K σ' → Good P c n σ' a' w' → N a' w') :
    if Region.wanted o (yielded ops a.tmps) then o.wp P a w N Q else N (a.put o.dst undef) w := by
  obtain ⟨⟨loc, hr⟩, hs, hdf⟩ := h
  have heval := act_eval a
  unfold vcOp at hv
  split at hv
  · rename_i hgd
    rw [if_pos (by simp [Region.wanted, hgd])]
    split at hv
    · rename_i q hq
      obtain ⟨hp, hK⟩ := hv
      obtain ⟨v, r1, r2⟩ := hr.fval o hq hp
      exact upon_val (by rw [heval]; exact r1) (hnext _ _ _ hK (.put hd hs hdf (hr.setVal1 r2)))
    · exact vcAct_sound hr hd hs hdf hv hnext
  · rename_i j want hgd
    split at hv
    · rename_i gb hgb
      have hw : Region.wanted o (yielded ops a.tmps) = gb := by
        simp only [Region.wanted, hgd]
        unfold guardAV at hgb
        split at hgb
        · rename_i t ht
          have hlt := hg j want hgd t ht
          have hy : yielded ops a.tmps j = match a.tmps.getD t undef with | .bool b => some b | _ => none := by
            simp only [yielded, ht, Option.bind_some]
            have hlt' : t < a.tmps.size := by rw [hs]; exact hlt
            have : a.tmps[t]? = some (a.tmps.getD t undef) := by
              rw [Array.getElem?_eq_getElem hlt', Array.getD_eq_getD_getElem?, Array.getElem?_eq_getElem hlt']; rfl
            rw [this]
            cases a.tmps.getD t undef <;> rfl
          have hrep := hr.slots t
          unfold gBool at hgb
          split at hgb
          · rename_i b e
            rw [e] at hrep
            simp only [Option.some.injEq] at hgb; subst hgb
            rw [hy, hrep.inv_bool]
            cases b <;> cases want <;> rfl
          · rename_i p b e
            rw [e] at hrep
            simp only [Option.some.injEq] at hgb; subst hgb
            generalize a.tmps.getD t undef = v at hrep hy
            cases hrep with | op h1 h2 =>
            rw [hy]
            cases p
            · rw [h2 rfl]; rfl
            · rw [(h1 rfl).inv_bool]; cases b <;> cases want <;> rfl
          · cases hgb
        · simp [gBool] at hgb
      rw [hw]
      split at hv
      · rename_i q hq
        obtain ⟨hp, hK⟩ := hv
        cases gb
        · rw [if_neg (by simp)]
          exact hnext _ _ _ hK (.put hd hs hdf (hr.setVal1 (RepA.mkOp (.op (fun h => by cases h) fun _ => rfl))))
        · rw [if_pos rfl]
          obtain ⟨v, r1, r2⟩ := hr.fval o hq (hp rfl)
          exact upon_val (by rw [heval]; exact r1) (hnext _ _ _ hK (.put hd hs hdf (hr.setVal1 (RepA.mkOp (.op (fun _ => r2) fun h => by cases h)))))
      · rcases hv with ⟨hv1, hv2⟩ | ⟨r, hv1, hv2⟩
        · cases gb
          · rw [if_neg (by simp)]
            exact hnext _ _ _ (hv2 rfl) (.put hd hs hdf (hr.setVal1 (.unk _)))
          · rw [if_pos rfl]
            exact vcAct_sound hr hd hs hdf (hv1 rfl) hnext
        · cases gb
          · rw [if_neg (by simp)]
            exact hnext _ _ _ hv2 (.put hd hs hdf (hr.setVal1 (.op (fun h => by cases h) fun _ => rfl)))
          · rw [if_pos rfl]
            replace hv1 := hv1 rfl
            unfold vcFun at hv1
            split at hv1
            · rename_i cl hop
              split at hv1
              · rename_i f hf
                obtain ⟨p1, p2, hv1⟩ := hv1
                refine vcCall_sound hop hf hr p1 p2 hv1 fun x σ' v w' loc' hk hr' => ?_
                obtain ⟨rfl, rfl⟩ := hk
                refine hnext _ _ _ hv2 (.put hd hs hdf (hr'.setVal1 (.op (fun _ => hr'.val1) fun h => by cases h)))
              · exact hv1.elim
            · exact hv1.elim
    · exact hv.elim

end
end Go.Fw

/- Regions that draw their order: one schedule stands for all orders. -/
namespace Go.Fw
open Go

def vcIdx (P : Program) (fz : List Nat) (ops : Array Oper) (i : Nat) (σ : AS) (K : AS → Prop) : Prop :=
  match ops[i]? with
  | some o => vcOp P fz ops σ o K
  | none => K σ

def depsOf (ops : Array Oper) (i : Nat) : List Nat :=
  match ops[i]? with
  | some o => (o.after.toList.filter (Region.binds .any)).map (·.on)
  | none => []
def dstOf (ops : Array Oper) (i : Nat) : Option Nat := (ops[i]?).bind (·.dst)
def looksOf (ops : Array Oper) (i : Nat) : List Nat := match ops[i]? with | some o => o.looksAt ops | none => []

/-- Does 'j' wait for 'i'? -/
def ancB (ops : Array Oper) : Nat → Nat → Nat → Bool
  | 0, _, _ => false
  | n + 1, i, j => (depsOf ops j).contains i || (depsOf ops j).any fun d => ancB ops n i d

inductive Step where
  | pur (i : Nat)
  | eff (j : Nat) (chk : List Nat)

/-- A schedule; where two effects are ready at once, one for each. -/
inductive Sched where
  | nil
  | pur (i : Nat) (r : Sched)
  | eff (j : Nat) (chk : List Nat) (r : Sched)
  | alt (j1 : Nat) (c1 : List Nat) (r1 : Sched) (j2 : Nat) (c2 : List Nat) (r2 : Sched)
  | alt3 (j1 : Nat) (c1 : List Nat) (r1 : Sched) (j2 : Nat) (c2 : List Nat) (r2 : Sched) (j3 : Nat) (c3 : List Nat) (r3 : Sched)
def schA : List Step → Sched → Sched
  | [], t => t
  | .pur i :: r, t => .pur i (schA r t)
  | .eff j chk :: r, t => .eff j chk (schA r t)
def sch (l : List Step) : Sched := schA l .nil

def pureOk (ops : Array Oper) (i : Nat) : Bool :=
  match dstOf ops i with
  | some s => !(looksOf ops i).contains s && (List.range ops.size).all fun k => k == i || (dstOf ops k != some s && (!(looksOf ops k).contains s || (depsOf ops k).contains i))
  | none => false
def effOk (ops : Array Oper) (j : Nat) : Bool :=
  match dstOf ops j with
  | some s => (List.range ops.size).all fun k => k == j || (dstOf ops k != some s && (!(looksOf ops k).contains s || (depsOf ops k).contains j || (depsOf ops j).contains k))
  | none => true

def schedOk (ops : Array Oper) : Array Bool → List Nat → Sched → Bool
  | L, _, .nil => Region.ready .any ops L == []
  | L, dn, .pur i r => (Region.ready .any ops L).contains i && pureOk ops i && schedOk ops (L.setIfInBounds i true) (dn ++ [i]) r
  | L, dn, .eff j chk r => Region.ready .any ops L == [j] && effOk ops j && dn.all (fun i => chk.contains i || ancB ops ops.size i j) && schedOk ops (L.setIfInBounds j true) dn r
  | L, dn, .alt j1 c1 r1 j2 c2 r2 => Region.ready .any ops L == [j1, j2] && (effOk ops j1 && dn.all (fun i => c1.contains i || ancB ops ops.size i j1) && schedOk ops (L.setIfInBounds j1 true) dn r1) &&
      (effOk ops j2 && dn.all (fun i => c2.contains i || ancB ops ops.size i j2) && schedOk ops (L.setIfInBounds j2 true) dn r2)
  | L, dn, .alt3 j1 c1 r1 j2 c2 r2 j3 c3 r3 => Region.ready .any ops L == [j1, j2, j3] && (effOk ops j1 && dn.all (fun i => c1.contains i || ancB ops ops.size i j1) && schedOk ops (L.setIfInBounds j1 true) dn r1) &&
      (effOk ops j2 && dn.all (fun i => c2.contains i || ancB ops ops.size i j2) && schedOk ops (L.setIfInBounds j2 true) dn r2) && (effOk ops j3 && dn.all (fun i => c3.contains i || ancB ops ops.size i j3) && schedOk ops (L.setIfInBounds j3 true) dn r3)

/-- The value of an operation that only yields one, the guard with it. -/
def pureV (P : Program) (σ : AS) (ops : Array Oper) (o : Oper) : Option PA :=
  match o.guard with
  | none => fval P σ o.op
  | some (j, b) => match gBool (guardAV σ ops j) b, fval P σ o.op with
    | some g, some (p, x) => some (g = true → p, mkOp g x)
    | _, _ => none

def chkAll (P : Program) (ops : Array Oper) (σ : AS) : List Nat → Prop
  | [] => True
  | i :: r => (match ops[i]? with
    | some o => match pureV P σ ops o, o.dst with
      | some (p, x), some d => p ∧ x = σ.sl d
      | _, _ => False
    | none => False) ∧ chkAll P ops σ r

def vcPur (P : Program) (ops : Array Oper) (i : Nat) (σ : AS) (K : AS → Prop) : Prop :=
  match ops[i]? with
  | some o => match pureV P σ ops o with
    | some (p, x) => p ∧ K (σ.put o.dst x)
    | none => False
  | none => False

def vcSched (P : Program) (fz : List Nat) (ops : Array Oper) : Sched → AS → (AS → Prop) → Prop
  | .nil, σ, K => K σ
  | .pur i r, σ, K => vcPur P ops i σ fun σ' => vcSched P fz ops r σ' K
  | .eff j chk r, σ, K => vcIdx P fz ops j σ fun σ' => chkAll P ops σ' chk ∧ vcSched P fz ops r σ' K
  | .alt j1 c1 r1 j2 c2 r2, σ, K => (vcIdx P fz ops j1 σ fun σ' => chkAll P ops σ' c1 ∧ vcSched P fz ops r1 σ' K) ∧ (vcIdx P fz ops j2 σ fun σ' => chkAll P ops σ' c2 ∧ vcSched P fz ops r2 σ' K)
  | .alt3 j1 c1 r1 j2 c2 r2 j3 c3 r3, σ, K => (vcIdx P fz ops j1 σ fun σ' => chkAll P ops σ' c1 ∧ vcSched P fz ops r1 σ' K) ∧ (vcIdx P fz ops j2 σ fun σ' => chkAll P ops σ' c2 ∧ vcSched P fz ops r2 σ' K) ∧ (vcIdx P fz ops j3 σ fun σ' => chkAll P ops σ' c3 ∧ vcSched P fz ops r3 σ' K)

section
variable {P : Program} {c : Ctx} {n : Nat} {σ : AS} {ops : Array Oper} {a : Act} {w : World} {fz : List Nat}

def YieldsAt (P : Program) (ops : Array Oper) (o : Oper) (u : Value) (a : Act) (w : World) : Prop :=
  (Region.wanted o (yielded ops a.tmps) = true ∧ (execOp a.eval o).run P w = .ok (.value u) w) ∨ (Region.wanted o (yielded ops a.tmps) = false ∧ u = undef)

theorem YieldsAt.of_same {o : Oper} {u : Value} {a' : Act} (h : YieldsAt P ops o u a w) (he : execOp a'.eval o = execOp a.eval o) (hw : Region.wanted o (yielded ops a'.tmps) = Region.wanted o (yielded ops a.tmps)) : YieldsAt P ops o u a' w := by
  unfold YieldsAt at *; rw [he, hw]; exact h

theorem pure_yields {o : Oper} {p : Prop} {x : AV} {loc : Nat → Option (Nat × Nat)} (hr : RepL P c σ (fun s => a.tmps.getD s undef) w [] [] loc) (hs : a.tmps.size = n) (hg : ∀ j b, o.guard = some (j, b) → ∀ t, (ops[j]?).bind (·.dst) = some t → t < n)
    (hv : pureV P σ ops o = some (p, x)) (hp : p) : ∃ u, YieldsAt P ops o u a w ∧ RepA P w (okOf c w σ.hp loc) loc u x := by
  have heval := act_eval a
  unfold pureV at hv
  split at hv
  · rename_i hgd
    obtain ⟨v, r1, r2⟩ := hr.fval o hv hp
    exact ⟨v, .inl ⟨by simp [Region.wanted, hgd], by rw [heval]; exact r1⟩, r2⟩
  · rename_i j want hgd
    split at hv
    · rename_i gb q y hgb hf
      simp only [Option.some.injEq, Prod.mk.injEq] at hv; obtain ⟨rfl, rfl⟩ := hv
      have hw : Region.wanted o (yielded ops a.tmps) = gb := by
        simp only [Region.wanted, hgd]
        unfold guardAV at hgb
        split at hgb
        · rename_i t ht
          have hlt := hg j want hgd t ht
          have hy : yielded ops a.tmps j = match a.tmps.getD t undef with | .bool b => some b | _ => none := by
            simp only [yielded, ht, Option.bind_some]
            have hlt' : t < a.tmps.size := by rw [hs]; exact hlt
            have : a.tmps[t]? = some (a.tmps.getD t undef) := by
              rw [Array.getElem?_eq_getElem hlt', Array.getD_eq_getD_getElem?, Array.getElem?_eq_getElem hlt']; rfl
            rw [this]
            cases a.tmps.getD t undef <;> rfl
          have hrep := hr.slots t
          unfold gBool at hgb
          split at hgb
          · rename_i b e
            rw [e] at hrep
            simp only [Option.some.injEq] at hgb; subst hgb
            rw [hy, hrep.inv_bool]
            cases b <;> cases want <;> rfl
          · rename_i p b e
            rw [e] at hrep
            simp only [Option.some.injEq] at hgb; subst hgb
            generalize a.tmps.getD t undef = v at hrep hy
            cases hrep with | op h1 h2 =>
            rw [hy]
            cases p
            · rw [h2 rfl]; rfl
            · rw [(h1 rfl).inv_bool]; cases b <;> cases want <;> rfl
          · cases hgb
        · simp [gBool] at hgb
      cases gb
      · exact ⟨undef, .inr ⟨hw, rfl⟩, RepA.mkOp (.op (fun h => by cases h) fun _ => rfl)⟩
      · obtain ⟨v, r1, r2⟩ := hr.fval o hf (hp rfl)
        exact ⟨v, .inl ⟨hw, by rw [heval]; exact r1⟩, RepA.mkOp (.op (fun _ => r2) fun h => by cases h)⟩
    · cases hv

/-! ### Frames in which pending values are filled in -/

def fill (ops : Array Oper) (a : Act) : List (Nat × Value) → Act
  | [] => a
  | (i, u) :: r => fill ops (a.put (dstOf ops i) u) r

theorem fill_append (ops : Array Oper) : ∀ (l r : List (Nat × Value)) (a : Act), fill ops a (l ++ r) = fill ops (fill ops a l) r
  | [], _, _ => rfl
  | (i, u) :: l, r, a => by simp only [List.cons_append, fill]; exact fill_append ops l r _

def apartD (x y : Option Nat) : Prop := ∀ d, x = some d → y ≠ some d
theorem apartD.symm {x y : Option Nat} (h : apartD x y) : apartD y x := fun d hy hx => h d hx hy

theorem fill_put (v : Value) {x : Option Nat} : ∀ (l : List (Nat × Value)) (a : Act), (∀ p ∈ l, apartD x (dstOf ops p.1)) → fill ops (a.put x v) l = (fill ops a l).put x v
  | [], _, _ => rfl
  | (i, u) :: l, a, h => by
    simp only [fill]
    rw [Act.put_comm a v u (h (i, u) (by simp))]
    exact fill_put v l _ fun p hp => h p (by simp [hp])

theorem fill_exec {o : Oper} (hs : ∀ cs b, o.op ≠ .select cs b) : ∀ (l : List (Nat × Value)) (a : Act), (∀ p ∈ l, ∀ d, dstOf ops p.1 = some d → d ∉ o.looksAt ops) →
    execOp (fill ops a l).eval o = execOp a.eval o ∧ Region.wanted o (yielded ops (fill ops a l).tmps) = Region.wanted o (yielded ops a.tmps)
  | [], _, _ => ⟨rfl, rfl⟩
  | (i, u) :: l, a, h => by
    simp only [fill]
    obtain ⟨h1, h2⟩ := fill_exec hs l (a.put (dstOf ops i) u) fun p hp => h p (by simp [hp])
    have h0 := h (i, u) (by simp)
    exact ⟨h1.trans (execOp_put o hs a _ u h0), h2.trans (wanted_put o a _ u h0)⟩

theorem put_put (a : Act) (x : Option Nat) (u v : Value) : (a.put x u).put x v = a.put x v := by
  cases x <;> simp [Act.put]

structure GP (P : Program) (c : Ctx) (n : Nat) (σ : AS) (ops : Array Oper) (pend : List (Nat × Value)) (a : Act) (w : World) : Prop where
  good : Good P c n σ (fill ops a pend) w
  yields : ∀ p ∈ pend, ∃ o, ops[p.1]? = some o ∧ YieldsAt P ops o p.2 (fill ops a pend) w

theorem Good.fillSlot {d : Nat} {u : Value} {loc : Nat → Option (Nat × Nat)} (hs : a.tmps.size = n) (hd : d < n) (hdf : a.defers = []) (hr : RepL P c σ (fun s => a.tmps.getD s undef) w [] [] loc) (hu : RepA P w (okOf c w σ.hp loc) loc u (σ.sl d)) : Good P c n σ (a.put (some d) u) w := by
  have := Good.put (dst := some d) (x := σ.sl d) (v := u) (fun t ht => by cases ht; exact hd) hs hdf (hr.setVal1 hu)
  have e : σ.put (some d) (σ.sl d) = σ := by
    cases σ with | mk sl hp used =>
    simp only [AS.put, AS.mk.injEq, and_true]
    funext s
    simp only [upd]
    split
    · rename_i h; rw [h]
    · rfl
  rwa [e] at this

/-- No operation in the list looks at what it, or a later one, yields. -/
def Sep (ops : Array Oper) : List Nat → Prop
  | [] => True
  | i :: r => (∀ d, dstOf ops i = some d → d ∉ looksOf ops i) ∧ (∀ k ∈ r, (∀ d, dstOf ops k = some d → d ∉ looksOf ops i) ∧ apartD (dstOf ops i) (dstOf ops k)) ∧ Sep ops r

theorem chkAll_get : ∀ {l : List Nat}, chkAll P ops σ l → ∀ i ∈ l, ∃ o p x d, ops[i]? = some o ∧ pureV P σ ops o = some (p, x) ∧ o.dst = some d ∧ p ∧ x = σ.sl d
  | [], _, i, hi => by simp at hi
  | k :: r, h, i, hi => by
    rcases List.mem_cons.1 hi with rfl | hi
    · have h1 := h.1
      split at h1
      · rename_i o ho
        split at h1
        · rename_i p x d e1 e2; exact ⟨o, p, x, d, ho, e1, e2, h1.1, h1.2⟩
        · exact h1.elim
      · exact h1.elim
    · exact chkAll_get h.2 i hi

/-- All slots that the region's operations write lie within the frame. -/
def dstsIn (ops : Array Oper) (n : Nat) : Prop := ∀ i d, dstOf ops i = some d → d < n

theorem refill (hns : Region.noSelect ops = true) (hin : dstsIn ops n) : ∀ (pend : List (Nat × Value)) (a : Act), Sep ops (pend.map Prod.fst) → Good P c n σ (fill ops a pend) w → (∀ q ∈ pend, ∃ o p x d, ops[q.1]? = some o ∧ pureV P σ ops o = some (p, x) ∧ o.dst = some d ∧ p ∧ x = σ.sl d) →
    ∃ pend', pend'.map Prod.fst = pend.map Prod.fst ∧ Good P c n σ (fill ops a pend') w ∧ ∀ q ∈ pend', ∃ o, ops[q.1]? = some o ∧ YieldsAt P ops o q.2 (fill ops a pend') w
  | [], a, _, hg, _ => ⟨[], rfl, hg, by simp⟩
  | (i, u) :: r, a, hsep, hg, hc => by
    obtain ⟨o, p, x, d, ho, hv, hd, hp, hx⟩ := hc (i, u) (by simp)
    simp only at ho
    have hdst : dstOf ops i = some d := by simp [dstOf, ho, hd]
    have hlook : looksOf ops i = o.looksAt ops := by simp [looksOf, ho]
    have hsel := fun cs b => Region.noSelect_spec hns i o cs b ho
    obtain ⟨s1, s2, s3⟩ := hsep
    have hgd : ∀ j b, o.guard = some (j, b) → ∀ t, (ops[j]?).bind (·.dst) = some t → t < n := fun j b _ t ht => hin j t ht
    obtain ⟨⟨loc, hr⟩, hs, hdf⟩ := hg
    obtain ⟨v, hy, hrep⟩ := pure_yields hr hs hgd hv hp
    rw [hx] at hrep
    have hg2 : Good P c n σ ((fill ops a ((i, u) :: r)).put (some d) v) w := Good.fillSlot hs (hin i d hdst) hdf hr hrep
    have hap : ∀ p ∈ r, apartD (some d) (dstOf ops p.1) := fun p hp' => by rw [← hdst]; exact (s2 p.1 (List.mem_map.2 ⟨p, hp', rfl⟩)).2
    have e1 : (fill ops a ((i, u) :: r)).put (some d) v = fill ops (a.put (some d) v) r := by
      simp only [fill, hdst]
      rw [← fill_put v r _ hap, put_put]
    rw [e1] at hg2
    obtain ⟨r', h1, h2, h3⟩ := refill hns hin r (a.put (some d) v) s3 hg2 fun q hq => hc q (by simp [hq])
    refine ⟨(i, v) :: r', by simp [h1], by simpa only [fill, hdst] using h2, fun q hq => ?_⟩
    rcases List.mem_cons.1 hq with rfl | hq
    · refine ⟨o, ho, ?_⟩
      have l1 := fill_exec (ops := ops) hsel ((i, u) :: r) a fun q hq d' hd' => by
        rw [← hlook]
        rcases List.mem_cons.1 hq with rfl | hq
        · exact s1 d' hd'
        · exact (s2 q.1 (List.mem_map.2 ⟨q, hq, rfl⟩)).1 d' hd'
      have l2 := fill_exec (ops := ops) hsel ((i, v) :: r') a fun q hq d' hd' => by
        rw [← hlook]
        rcases List.mem_cons.1 hq with rfl | hq
        · exact s1 d' hd'
        · have : q.1 ∈ r.map Prod.fst := by rw [← h1]; exact List.mem_map.2 ⟨q, hq, rfl⟩
          exact (s2 q.1 this).1 d' hd'
      exact hy.of_same (l2.1.trans l1.1.symm) (l2.2.trans l1.2.symm)
    · have := h3 q hq
      simpa only [fill, hdst] using this

end
end Go.Fw

/- Regions that draw their order: the schedule suffices. -/
namespace Go.Fw
open Go

def lst (L : Array Bool) (i : Nat) : Prop := L.getD i false = true

theorem ready_iff {ops : Array Oper} {L : Array Bool} (hsz : L.size = ops.size) {i : Nat} : i ∈ Region.ready .any ops L ↔ i < ops.size ∧ ¬ lst L i ∧ ∀ d ∈ depsOf ops i, lst L d := by
  rw [mem_ready]
  constructor
  · rintro ⟨h0, o, ho, hall⟩
    have hlt : i < ops.size := (Array.getElem?_eq_some_iff.1 ho).1
    refine ⟨hlt, ?_, fun d hd => ?_⟩
    · simp only [lst, Array.getD_eq_getD_getElem?] at *
      rw [Array.getElem?_eq_getElem (by omega)] at *
      simp at h0 ⊢; exact h0
    · simp only [depsOf, ho, List.mem_map, List.mem_filter, Array.mem_toList_iff] at hd
      obtain ⟨e, ⟨he, hb⟩, rfl⟩ := hd
      exact hall e he hb
  · rintro ⟨hlt, h0, hall⟩
    refine ⟨?_, ops[i], Array.getElem?_eq_getElem hlt, fun e he hb => hall e.on ?_⟩
    · simp only [lst, Array.getD_eq_getD_getElem?] at *
      rw [Array.getElem?_eq_getElem (by omega)] at *
      simp at h0 ⊢; exact h0
    · simp only [depsOf, Array.getElem?_eq_getElem hlt, List.mem_map, List.mem_filter, Array.mem_toList_iff]
      exact ⟨e, ⟨he, hb⟩, rfl⟩

theorem lst_set {L : Array Bool} {k i : Nat} (hk : k < L.size) : lst (L.setIfInBounds k true) i ↔ i = k ∨ lst L i := by
  simp only [lst]
  by_cases h : i = k
  · subst h; simp [hk]
  · rw [getD_set_ne false (Ne.symm h)]; simp [h]

def unl (ops : Array Oper) (L : Array Bool) : Nat := (List.range ops.size).countP fun i => !L.getD i false

theorem unl_set {ops : Array Oper} {L : Array Bool} (hsz : L.size = ops.size) {k : Nat} (hk : k < ops.size) (hu : ¬ lst L k) : unl ops (L.setIfInBounds k true) < unl ops L := by
  unfold unl
  have gen : ∀ l : List Nat, k ∈ l → l.countP (fun i => !(L.setIfInBounds k true).getD i false) < l.countP (fun i => !L.getD i false) ∧ True := by
    intro l
    have le : ∀ l : List Nat, l.countP (fun i => !(L.setIfInBounds k true).getD i false) ≤ l.countP (fun i => !L.getD i false) := fun l =>
      List.countP_mono_left fun i _ hi => by
        cases h : L.getD i false with
        | false => simp
        | true =>
          have := (lst_set (L := L) (k := k) (i := i) (by omega)).2 (.inr h)
          simp only [lst] at this
          rw [this] at hi; simp at hi
    induction l with
    | nil => intro h; simp at h
    | cons x r ih =>
      intro h
      refine ⟨?_, trivial⟩
      rw [List.countP_cons, List.countP_cons]
      by_cases hx : x = k
      · subst hx
        have h1 : (L.setIfInBounds x true).getD x false = true := (lst_set (L := L) (k := x) (i := x) (by omega)).2 (.inl rfl)
        have h2 : L.getD x false = false := by simpa [lst] using hu
        rw [h1, h2]
        have := le r
        simp only [Bool.not_true, Bool.false_eq_true, if_false, Bool.not_false, if_true]; omega
      · have h3 := (ih (by simpa [Ne.symm hx] using h)).1
        rw [getD_set_ne false (Ne.symm hx)]
        omega
  exact (gen _ (List.mem_range.2 hk)).1

structure Inv (ops : Array Oper) (Lp L : Array Bool) (dn pd : List Nat) : Prop where
  sz : L.size = ops.size
  szp : Lp.size = ops.size
  iff : ∀ i, lst Lp i ↔ lst L i ∨ i ∈ pd
  un : ∀ i ∈ pd, ¬ lst L i
  nd : pd.Nodup
  mem : ∀ i ∈ pd, i ∈ dn
  ok : ∀ i ∈ dn, pureOk ops i = true
  lt : ∀ i ∈ pd, i < ops.size
  cl : ∀ i, lst L i → ∀ d ∈ depsOf ops i, lst L d
  ord : ∀ l1 i l2, pd = l1 ++ i :: l2 → ∀ d ∈ depsOf ops i, lst L d ∨ d ∈ l1

theorem pureOk_spec {ops : Array Oper} {i : Nat} (h : pureOk ops i = true) : ∃ s, dstOf ops i = some s ∧ s ∉ looksOf ops i ∧ ∀ k, k ≠ i → dstOf ops k ≠ some s ∧ (s ∈ looksOf ops k → i ∈ depsOf ops k) := by
  unfold pureOk at h
  split at h
  · rename_i s hs
    simp only [Bool.and_eq_true, Bool.not_eq_true', List.all_eq_true, List.mem_range, Bool.or_eq_true, beq_iff_eq, bne_iff_ne, List.contains_eq_mem, decide_eq_true_eq, decide_eq_false_iff_not] at h
    refine ⟨s, hs, h.1, fun k hk => ?_⟩
    rcases Nat.lt_or_ge k ops.size with hlt | hge
    · rcases h.2 k hlt with h' | ⟨h1, h2⟩
      · exact absurd h' hk
      · exact ⟨h1, fun hl => h2.resolve_left (by simpa using hl)⟩
    · have : ops[k]? = none := Array.getElem?_eq_none hge
      exact ⟨by simp [dstOf, this], by simp [looksOf, this]⟩
  · cases h

theorem effOk_spec {ops : Array Oper} {j : Nat} (h : effOk ops j = true) : ∀ s, dstOf ops j = some s → ∀ k, k ≠ j → dstOf ops k ≠ some s ∧ (s ∈ looksOf ops k → j ∈ depsOf ops k ∨ k ∈ depsOf ops j) := by
  intro s hs k hk
  unfold effOk at h
  rw [hs] at h
  simp only [List.all_eq_true, List.mem_range, Bool.or_eq_true, Bool.and_eq_true, beq_iff_eq, bne_iff_ne, Bool.not_eq_true', List.contains_eq_mem, decide_eq_true_eq, decide_eq_false_iff_not] at h
  rcases Nat.lt_or_ge k ops.size with hlt | hge
  · rcases h k hlt with h' | ⟨h1, h2⟩
    · exact absurd h' hk
    · refine ⟨h1, fun hl => ?_⟩
      rcases h2 with (h2 | h2) | h2
      · exact absurd hl h2
      · exact .inl h2
      · exact .inr h2
  · have : ops[k]? = none := Array.getElem?_eq_none hge
    exact ⟨by simp [dstOf, this], by simp [looksOf, this]⟩

theorem Inv.sep {ops : Array Oper} {Lp L : Array Bool} {dn pd : List Nat} (h : Inv ops Lp L dn pd) : Sep ops pd := by
  have gen : ∀ l1 l2, pd = l1 ++ l2 → Sep ops l2 := by
    intro l1 l2
    induction l2 generalizing l1 with
    | nil => intro _; trivial
    | cons i r ih =>
      intro he
      have hi : i ∈ pd := by rw [he]; simp
      obtain ⟨s, hs, hself, hoth⟩ := pureOk_spec (h.ok i (h.mem i hi))
      have hnd := h.nd
      rw [he] at hnd
      refine ⟨fun d hd => ?_, fun k hk => ⟨fun d hd hl => ?_, fun d hd hd' => ?_⟩, ih (l1 ++ [i]) (by rw [he]; simp)⟩
      · rw [hs] at hd; cases hd; exact hself
      · have hkp : k ∈ pd := by rw [he]; simp [hk]
        obtain ⟨s', hs', _, hoth'⟩ := pureOk_spec (h.ok k (h.mem k hkp))
        rw [hs'] at hd; cases hd
        have hne : i ≠ k := fun e => by
          subst e
          have := (List.nodup_append.1 hnd).2.1
          rw [List.nodup_cons] at this
          exact this.1 hk
        rcases h.ord l1 i r he k ((hoth' i hne).2 hl) with h1 | h1
        · exact h.un k hkp h1
        · have := (List.nodup_append.1 hnd).2.2 k h1 k (by simp [hk])
          exact this rfl
      · have hkp : k ∈ pd := by rw [he]; simp [hk]
        rw [hs] at hd; cases hd
        have hne : k ≠ i := fun e => by
          subst e
          have := (List.nodup_append.1 hnd).2.1
          rw [List.nodup_cons] at this
          exact this.1 hk
        exact (hoth k hne).1 hd'
  exact gen [] pd rfl

theorem ancB_closed {ops : Array Oper} {L : Array Bool} (cl : ∀ i, lst L i → ∀ d ∈ depsOf ops i, lst L d) : ∀ (m i j : Nat), ancB ops m i j = true → (∀ d ∈ depsOf ops j, lst L d) → lst L i
  | 0, _, _, h, _ => by cases h
  | m + 1, i, j, h, hd => by
    simp only [ancB, Bool.or_eq_true, List.contains_eq_mem, decide_eq_true_eq, List.any_eq_true] at h
    rcases h with h | ⟨d, h1, h2⟩
    · exact hd i h
    · exact ancB_closed cl m i d h2 (cl d (hd d h1))

section
variable {P : Program} {c : Ctx} {n : Nat} {ops : Array Oper} {fz : List Nat}

/-- An operation that sees nothing of what is pending does the same with it filled in. -/
theorem wp_fill {o : Oper} {Q : Exit → Act → World → Prop} {N N' : Act → World → Prop} (hsel : ∀ cs b, o.op ≠ .select cs b) {a : Act} {w : World} {pend : List (Nat × Value)} (hl : ∀ p ∈ pend, ∀ d, dstOf ops p.1 = some d → d ∉ o.looksAt ops)
    (hd : ∀ p ∈ pend, apartD o.dst (dstOf ops p.1)) (hQ : ∀ ch a w, ¬ Q (.panic ch) a w) (hdef : ∀ a w, N a w → a.defers = []) (hN : ∀ v w', N (fill ops (a.put o.dst v) pend) w' → N' (a.put o.dst v) w')
    (h : if Region.wanted o (yielded ops (fill ops a pend).tmps) then o.wp P (fill ops a pend) w N Q else N ((fill ops a pend).put o.dst undef) w) :
    if Region.wanted o (yielded ops a.tmps) then o.wp P a w N' Q else N' (a.put o.dst undef) w := by
  obtain ⟨e1, e2⟩ := fill_exec hsel pend a hl
  have hput : ∀ v, (fill ops a pend).put o.dst v = fill ops (a.put o.dst v) pend := fun v => (fill_put v pend a hd).symm
  rw [e2] at h
  split
  · rename_i hw
    rw [if_pos hw] at h
    unfold Oper.wp at *
    rw [e1] at h
    generalize (execOp a.eval o).run P w = r at *
    cases r with
    | ok nx w' =>
      cases nx <;> simp only [Oper.upon] at h ⊢
      case value u => exact hN u w' (by rw [← hput]; exact h)
      case skip => exact hN _ w' (by rw [← hput]; exact h)
      case defer d =>
        have := hdef _ _ h
        rw [put_defers] at this
        cases this
      case enter f args =>
        refine Calls.mono h fun e w'' he => ?_
        cases e with
        | returned u => exact hN u w'' (by rw [← hput]; exact he)
        | panicked ch => exact absurd he (hQ _ _ _)
        | outgrown => exact he
      case row row args => exact Rows.mono h fun u w'' he => hN u w'' (by rw [← hput]; exact he)
    | halt x w' =>
      cases x <;> simp only [Oper.upon] at h ⊢
      case panic u => exact absurd h (hQ _ _ _)
  · rename_i hw
    rw [if_neg hw] at h
    exact hN _ _ (by rw [← hput]; exact h)

theorem fill_size (ops : Array Oper) : ∀ (l : List (Nat × Value)) (a : Act), (fill ops a l).tmps.size = a.tmps.size
  | [], _ => rfl
  | (i, u) :: l, a => by simp only [fill]; rw [fill_size ops l, put_size]

/-- A pending operation comes up. -/
theorem take_pending {Lp L : Array Bool} {dn : List Nat} {l1 l2 : List (Nat × Value)} {k : Nat} {u : Value} (hi : Inv ops Lp L dn ((l1 ++ (k, u) :: l2).map Prod.fst)) (hk : k ∈ Region.ready .any ops L) :
    Inv ops Lp (L.setIfInBounds k true) dn ((l1 ++ l2).map Prod.fst) := by
  obtain ⟨hlt, hu, hdeps⟩ := (ready_iff hi.sz).1 hk
  have hset : ∀ i, lst (L.setIfInBounds k true) i ↔ i = k ∨ lst L i := fun i => lst_set (by rw [hi.sz]; exact hlt)
  have hmem : ∀ i, i ∈ (l1 ++ (k, u) :: l2).map Prod.fst ↔ i = k ∨ i ∈ (l1 ++ l2).map Prod.fst := fun i => by
    simp only [List.map_append, List.map_cons, List.mem_append, List.mem_cons]
    constructor
    · rintro (h | h | h)
      · exact .inr (.inl h)
      · exact .inl h
      · exact .inr (.inr h)
    · rintro (h | h | h)
      · exact .inr (.inl h)
      · exact .inl h
      · exact .inr (.inr h)
  have hnd := hi.nd
  simp only [List.map_append, List.map_cons] at hnd
  have hnd2 : ((l1 ++ l2).map Prod.fst).Nodup ∧ k ∉ (l1 ++ l2).map Prod.fst := by
    rw [List.map_append]
    have hp : (l1.map Prod.fst ++ k :: l2.map Prod.fst).Perm (k :: (l1.map Prod.fst ++ l2.map Prod.fst)) := List.perm_middle
    have := hp.nodup_iff.1 hnd
    rw [List.nodup_cons] at this
    exact ⟨this.2, this.1⟩
  refine ⟨by simp [hi.sz], hi.szp, fun i => ?_, fun i h => ?_, hnd2.1, fun i h => hi.mem i ((hmem i).2 (.inr h)), hi.ok, fun i h => hi.lt i ((hmem i).2 (.inr h)), fun i h d hd => ?_, fun m1 i m2 he d hd => ?_⟩
  · rw [hi.iff, hset, hmem]
    constructor
    · rintro (h | h | h)
      · exact .inl (.inr h)
      · exact .inl (.inl h)
      · exact .inr h
    · rintro ((h | h) | h)
      · exact .inr (.inl h)
      · exact .inl h
      · exact .inr (.inr h)
  · rw [hset]
    rintro (rfl | h')
    · exact hnd2.2 h
    · exact hi.un i ((hmem i).2 (.inr h)) h'
  · rw [hset] at h ⊢
    rcases h with rfl | h
    · exact .inr (hdeps d hd)
    · exact .inr (hi.cl i h d hd)
  · rw [hset]
    rw [List.map_append] at he
    rcases List.append_eq_append_iff.1 he with ⟨t, h1, h2⟩ | ⟨t, h1, h2⟩
    · -- m1 = map l1 ++ t
      have := hi.ord (l1.map Prod.fst ++ k :: t) i m2 (by simp [h2]) d hd
      rcases this with h | h
      · exact .inl (.inr h)
      · rw [h1]
        rcases List.mem_append.1 h with h | h
        · exact .inr (by simp [h])
        · rcases List.mem_cons.1 h with rfl | h
          · exact .inl (.inl rfl)
          · exact .inr (by simp [h])
    · cases t with
      | nil =>
        simp only [List.append_nil, List.nil_append] at h1 h2
        have := hi.ord (l1.map Prod.fst ++ [k]) i m2 (by simp [← h2]) d hd
        rcases this with h | h
        · exact .inl (.inr h)
        · rcases List.mem_append.1 h with h | h
          · exact .inr (by rw [← h1]; exact h)
          · simp at h; exact .inl (.inl h)
      | cons y t =>
        simp only [List.cons_append, List.cons.injEq] at h2
        obtain ⟨rfl, h2⟩ := h2
        have := hi.ord m1 i (t ++ k :: l2.map Prod.fst) (by simp [h1]) d hd
        rcases this with h | h
        · exact .inl (.inr h)
        · exact .inr h

end
end Go.Fw

/- Regions that draw their order: the schedule suffices, the whole. -/
namespace Go.Fw
open Go

section
variable {P : Program} {c : Ctx} {n : Nat} {ops : Array Oper} {fz : List Nat}

theorem ready_of_pending {Lp L : Array Bool} {dn pd : List Nat} (hi : Inv ops Lp L dn pd) (h : Region.ready .any ops L = []) : pd = [] := by
  cases pd with
  | nil => rfl
  | cons i r =>
    have : i ∈ Region.ready .any ops L := (ready_iff hi.sz).2 ⟨hi.lt i (by simp), hi.un i (by simp), fun d hd => (hi.ord [] i r rfl d hd).resolve_right (by simp)⟩
    rw [h] at this; simp at this

theorem ready_ne {Lp L : Array Bool} {dn pd : List Nat} (hi : Inv ops Lp L dn pd) {j : Nat} (hj : j ∈ Region.ready .any ops Lp) : Region.ready .any ops L ≠ [] := by
  intro h0
  have hp := ready_of_pending hi h0
  obtain ⟨hlt, hunl, hdeps⟩ := (ready_iff hi.szp).1 hj
  have : j ∈ Region.ready .any ops L := (ready_iff hi.sz).2 ⟨hlt, fun h => hunl ((hi.iff j).2 (.inl h)), fun d hd => by
    have := (hi.iff d).1 (hdeps d hd)
    rw [hp] at this
    simpa using this⟩
  rw [h0] at this; simp at this

theorem ready_up {Lp L : Array Bool} {dn pd : List Nat} (hi : Inv ops Lp L dn pd) {k : Nat} (hk : k ∈ Region.ready .any ops L) (hp : k ∉ pd) : k ∈ Region.ready .any ops Lp := by
  obtain ⟨h1, h2, h3⟩ := (ready_iff hi.sz).1 hk
  exact (ready_iff hi.szp).2 ⟨h1, fun h => (hi.iff k).1 h |>.elim h2 hp, fun d hd => (hi.iff d).2 (.inl (h3 d hd))⟩

theorem sched_sound (hns : Region.noSelect ops = true) (hin : dstsIn ops n) {K : AS → Prop} {Q : Exit → Act → World → Prop} (hQ : ∀ ch a w, ¬ Q (.panic ch) a w) (hn : ∀ σ' a' w', K σ' → Good P c n σ' a' w' → Q .normal a' w') :
    ∀ (fuel : Nat) (sc : Sched) (Lp L : Array Bool) (dn : List Nat) (pend : List (Nat × Value)) (σ : AS) (a : Act) (w : World), schedOk ops Lp dn sc = true → Inv ops Lp L dn (pend.map Prod.fst) → unl ops L ≤ fuel →
      vcSched P fz ops sc σ K → GP P c n σ ops pend a w → wpAny P .any ops Q fuel L a w := by
  intro fuel
  induction fuel with
  | zero => ?_
  | succ fuel ihf => ?_
  all_goals
    intro sc
    induction sc with
    | nil => ?_
    | pur i r ihs => ?_
    | eff j chk r ihs => ?_
    | alt j1 c1 r1 j2 c2 r2 ih1 ih2 => ?_
    | alt3 j1 c1 r1 j2 c2 r2 j3 c3 r3 ih1 ih2 ih3 => ?_
  · -- all is listed
    intro Lp L dn pend σ a w hsc hi hf hv hg
    have hnone : Region.ready .any ops L = [] := by
      rw [List.eq_nil_iff_forall_not_mem]
      intro k hk
      obtain ⟨h1, h2, _⟩ := (ready_iff hi.sz).1 hk
      have := unl_set hi.sz h1 h2; omega
    have hp := ready_of_pending hi hnone
    have hp' : pend = [] := by simpa using hp
    subst hp'
    exact ⟨hnone, hn σ a w hv hg.good⟩
  iterate 4
    · intro Lp L dn pend σ a w hsc hi hf hv hg
      have hnone : Region.ready .any ops L = [] := by
        rw [List.eq_nil_iff_forall_not_mem]
        intro k hk
        obtain ⟨h1, h2, _⟩ := (ready_iff hi.sz).1 hk
        have := unl_set hi.sz h1 h2; omega
      have hp := ready_of_pending hi hnone
      exfalso
      have key : ∀ k, k ∈ Region.ready .any ops Lp → False := fun k hk => by
        obtain ⟨h1, h2, h3⟩ := (ready_iff hi.szp).1 hk
        have : k ∈ Region.ready .any ops L := (ready_iff hi.sz).2 ⟨h1, fun h => h2 ((hi.iff k).2 (.inl h)), fun d hd => by
          have := (hi.iff d).1 (h3 d hd)
          rw [hp] at this
          simpa using this⟩
        rw [hnone] at this; simp at this
      simp only [schedOk, Bool.and_eq_true, List.contains_eq_mem, decide_eq_true_eq, beq_iff_eq] at hsc
      first
        | exact key _ hsc.1.1
        | exact key _ (by rw [hsc.1.1.1]; exact List.mem_cons_self)
        | exact key _ (by rw [hsc.1.1]; exact List.mem_cons_self)
        | exact key _ (by rw [hsc.1.1.1]; exact List.mem_cons_self)
  all_goals
    intro Lp L dn pend σ a w hsc hi hf hv hg
  -- what is done with a pending operation
  all_goals
    have hpend : ∀ (sc : Sched), schedOk ops Lp dn sc = true → vcSched P fz ops sc σ K → ∀ k ∈ Region.ready .any ops L, k ∈ pend.map Prod.fst → wpOp P ops Q k (wpAny P .any ops Q fuel (L.setIfInBounds k true)) a w := by
      intro sc hsc hv k hk hkp
      obtain ⟨⟨k', u⟩, hm, rfl⟩ := List.mem_map.1 hkp
      obtain ⟨l1, l2, rfl⟩ := List.append_of_mem hm
      obtain ⟨hlt, hu, hdeps⟩ := (ready_iff hi.sz).1 hk
      obtain ⟨o, ho, hy⟩ := hg.yields (k', u) hm
      simp only at ho hy
      have hi' := take_pending hi hk
      have hlook : looksOf ops k' = o.looksAt ops := by simp [looksOf, ho]
      have hsel := fun cs b => Region.noSelect_spec hns k' o cs b ho
      have hdisj : ∀ p ∈ l1 ++ (k', u) :: l2, ∀ d, dstOf ops p.1 = some d → d ∉ o.looksAt ops := fun p hp d hd hl => by
        have hpm : p.1 ∈ (l1 ++ (k', u) :: l2).map Prod.fst := List.mem_map.2 ⟨p, hp, rfl⟩
        obtain ⟨s, hs, hself, hoth⟩ := pureOk_spec (hi.ok _ (hi.mem _ hpm))
        rw [hs] at hd; cases hd
        rw [← hlook] at hl
        by_cases he : k' = p.1
        · rw [he] at hl; exact hself hl
        · exact hi.un _ hpm (hdeps _ ((hoth k' he).2 hl))
      obtain ⟨e1, e2⟩ := fill_exec hsel _ a hdisj
      have hy' : YieldsAt P ops o u a w := hy.of_same e1.symm e2.symm
      have hdst : dstOf ops k' = o.dst := by simp [dstOf, ho]
      have hfill : fill ops (a.put o.dst u) (l1 ++ l2) = fill ops a (l1 ++ (k', u) :: l2) := by
        rw [fill_append, fill_append]
        simp only [fill]
        rw [fill_put u l1 a, hdst]
        intro p hp d hd hd'
        have hpm : p.1 ∈ (l1 ++ (k', u) :: l2).map Prod.fst := List.mem_map.2 ⟨p, by simp [hp], rfl⟩
        have hkm : k' ∈ (l1 ++ (k', u) :: l2).map Prod.fst := List.mem_map.2 ⟨(k', u), by simp, rfl⟩
        obtain ⟨s, hs, _, hoth⟩ := pureOk_spec (hi.ok _ (hi.mem _ hkm))
        have hne : p.1 ≠ k' := fun e => by
          have hnd := hi.nd
          simp only [List.map_append, List.map_cons] at hnd
          exact (List.nodup_append.1 hnd).2.2 p.1 (List.mem_map.2 ⟨p, hp, rfl⟩) k' (by simp) e
        rw [hdst, hd] at hs
        cases hs
        exact (hoth p.1 hne).1 hd'
      have hgp : GP P c n σ ops (l1 ++ l2) (a.put o.dst u) w := ⟨by rw [hfill]; exact hg.good, fun p hp => by
        rw [hfill]
        refine hg.yields p ?_
        rcases List.mem_append.1 hp with h | h
        · simp [h]
        · simp [h]⟩
      have hnext := ihf sc Lp (L.setIfInBounds k' true) dn (l1 ++ l2) σ (a.put o.dst u) w hsc hi' (by have : unl ops (L.setIfInBounds k' true) < unl ops L := unl_set hi.sz hlt hu; omega) hv hgp
      unfold wpOp
      simp only [ho]
      rcases hy' with ⟨hw, hv'⟩ | ⟨hw, rfl⟩
      · simp only [hw, if_true, Oper.wp, hv', Oper.upon]; exact .inl hnext
      · simp only [hw, Bool.false_eq_true, if_false]; exact hnext
  · -- nothing is left of the schedule
    have hdone : Region.ready .any ops Lp = [] := by simpa [schedOk] using hsc
    refine ⟨fun h0 => ?_, fun k hk => ?_⟩
    · have hp' : pend = [] := by simpa using ready_of_pending hi h0
      subst hp'
      exact hn σ a w hv hg.good
    · by_cases hkp : k ∈ pend.map Prod.fst
      · exact hpend .nil hsc hv k hk hkp
      · have := ready_up hi hk hkp
        rw [hdone] at this; simp at this
  -- an effect that is ready
  all_goals
    have heff : ∀ (j : Nat) (chk : List Nat) (r : Sched), j ∈ Region.ready .any ops Lp → effOk ops j = true → (∀ i ∈ dn, i ∈ chk ∨ ancB ops ops.size i j = true) → schedOk ops (Lp.setIfInBounds j true) dn r = true →
        (vcIdx P fz ops j σ fun σ' => chkAll P ops σ' chk ∧ vcSched P fz ops r σ' K) → j ∈ Region.ready .any ops L → j ∉ pend.map Prod.fst → wpOp P ops Q j (wpAny P .any ops Q fuel (L.setIfInBounds j true)) a w := by
      intro k chk r hjr heok hchk hrest hv hk hkp
      obtain ⟨hlt, hunl, hdeps⟩ := (ready_iff hi.szp).1 hjr
      obtain ⟨_, hunL, hdepsL⟩ := (ready_iff hi.sz).1 hk
      simp only [vcIdx] at hv
      have ho : ops[k]? = some ops[k] := Array.getElem?_eq_getElem hlt
      rw [ho] at hv
      simp only at hv
      have hsel := fun cs b => Region.noSelect_spec hns k ops[k] cs b ho
      have hdstk : dstOf ops k = (ops[k]).dst := by simp [dstOf, ho]
      have hdd : ∀ t, (ops[k]).dst = some t → t < n := fun t ht => hin k t (by rw [hdstk]; exact ht)
      have hsound := vcOp_sound (P := P) (c := c) (n := n) (fz := fz) (ops := ops) (N := fun a' w' => ∃ σ', (chkAll P ops σ' chk ∧ vcSched P fz ops r σ' K) ∧ Good P c n σ' a' w') (Q := Q) hg.good hdd (fun j b _ t ht => hin j t ht) hv
        fun σ' a' w' hk hg' => ⟨σ', hk, hg'⟩
      have hpm : ∀ p ∈ pend, p.1 ∈ pend.map Prod.fst := fun p hp => List.mem_map.2 ⟨p, hp, rfl⟩
      have hne : ∀ p ∈ pend, k ≠ p.1 := fun p hp e => hkp (e ▸ hpm p hp)
      have hwp := wp_fill (P := P) (Q := Q) (N' := wpAny P .any ops Q fuel (L.setIfInBounds k true)) hsel (a := a) (pend := pend)
        (fun p hp d hd hl => by
          obtain ⟨s, hs, _, hoth⟩ := pureOk_spec (hi.ok _ (hi.mem _ (hpm p hp)))
          rw [hs] at hd; cases hd
          have := (hoth k (hne p hp)).2 (by simpa [looksOf, ho] using hl)
          exact hi.un _ (hpm p hp) (hdepsL _ this))
        (fun p hp d hd hd' => by
          obtain ⟨s, hs, _, hoth⟩ := pureOk_spec (hi.ok _ (hi.mem _ (hpm p hp)))
          rw [hs] at hd'; cases hd'
          exact (hoth k (hne p hp)).1 (by rw [hdstk]; exact hd))
        hQ (fun a w ⟨σ', _, hg'⟩ => hg'.defers) (fun v w' ⟨σ', ⟨hc, hvr⟩, hg'⟩ => by
          obtain ⟨pend', e1, g1, g2⟩ := refill hns hin pend _ hi.sep hg' fun q hq => by
            refine chkAll_get hc q.1 ?_
            rcases hchk q.1 (hi.mem _ (hpm q hq)) with h | h
            · exact h
            · exact absurd (ancB_closed hi.cl _ _ _ h hdepsL) (hi.un _ (hpm q hq))
          refine ihf r (Lp.setIfInBounds k true) (L.setIfInBounds k true) dn pend' σ' _ w' hrest ?_ (by have := unl_set hi.sz hlt hunL; omega) hvr ⟨g1, g2⟩
          rw [e1]
          have sL : ∀ i, lst (L.setIfInBounds k true) i ↔ i = k ∨ lst L i := fun i => lst_set (by rw [hi.sz]; exact hlt)
          have sP : ∀ i, lst (Lp.setIfInBounds k true) i ↔ i = k ∨ lst Lp i := fun i => lst_set (by rw [hi.szp]; exact hlt)
          refine ⟨by simp [hi.sz], by simp [hi.szp], fun i => ?_, fun i hip => ?_, hi.nd, hi.mem, hi.ok, hi.lt, fun i hl d hd => ?_, fun l1 i l2 he d hd => ?_⟩
          · rw [sL, sP, hi.iff]
            constructor
            · rintro (h | h | h)
              · exact .inl (.inl h)
              · exact .inl (.inr h)
              · exact .inr h
            · rintro ((h | h) | h)
              · exact .inl h
              · exact .inr (.inl h)
              · exact .inr (.inr h)
          · rw [sL]
            rintro (rfl | h)
            · exact hkp hip
            · exact hi.un i hip h
          · rw [sL] at hl ⊢
            rcases hl with rfl | h
            · exact .inr (hdepsL d hd)
            · exact .inr (hi.cl i h d hd)
          · rw [sL]
            rcases hi.ord l1 i l2 he d hd with h | h
            · exact .inl (.inr h)
            · exact .inr h) hsound
      unfold wpOp
      simp only [ho]
      split
      · rename_i hw; rw [if_pos hw] at hwp; exact .inl hwp
      · rename_i hw; rw [if_neg hw] at hwp; exact hwp
  · have hsc0 := hsc
    simp only [schedOk, Bool.and_eq_true, List.contains_eq_mem, decide_eq_true_eq] at hsc
    obtain ⟨⟨hrdy, hpok⟩, hrest⟩ := hsc
    obtain ⟨hlt, hunl, hdeps⟩ := (ready_iff hi.szp).1 hrdy
    obtain ⟨s, hs, hself, hoth⟩ := pureOk_spec hpok
    simp only [vcSched] at hv
    unfold vcPur at hv
    split at hv
    · rename_i o ho
      split at hv
      · rename_i p x hpv
        obtain ⟨hp, hv⟩ := hv
        have hdst : o.dst = some s := by simpa [dstOf, ho] using hs
        have hgd : ∀ j b, o.guard = some (j, b) → ∀ t, (ops[j]?).bind (·.dst) = some t → t < n := fun j b _ t ht => hin j t ht
        have hlook : looksOf ops i = o.looksAt ops := by simp [looksOf, ho]
        have hsel := fun cs b => Region.noSelect_spec hns i o cs b ho
        obtain ⟨⟨loc, hr⟩, hsz, hdf⟩ := hg.good
        obtain ⟨u, hy, hrep⟩ := pure_yields hr hsz hgd hpv hp
        have hipd : i ∉ pend.map Prod.fst := fun h => hunl ((hi.iff i).2 (.inr h))
        have hiL : ¬ lst L i := fun h => hunl ((hi.iff i).2 (.inl h))
        have hfill : fill ops a (pend ++ [(i, u)]) = (fill ops a pend).put (some s) u := by rw [fill_append]; simp only [fill, hs]
        refine ihs (Lp.setIfInBounds i true) L (dn ++ [i]) (pend ++ [(i, u)]) (σ.put o.dst x) a w hrest ?_ hf hv ⟨?_, fun q hq => ?_⟩
        · refine ⟨hi.sz, by simp [hi.szp], fun k => ?_, fun k hk => ?_, ?_, fun k hk => ?_, fun k hk => ?_, fun k hk => ?_, hi.cl, fun l1 k l2 he d hd => ?_⟩
          · rw [lst_set (by rw [hi.szp]; exact hlt), hi.iff]
            simp only [List.map_append, List.map_cons, List.map_nil, List.mem_append, List.mem_singleton]
            constructor
            · rintro (h | h | h)
              · exact .inr (.inr h)
              · exact .inl h
              · exact .inr (.inl h)
            · rintro (h | h | h)
              · exact .inr (.inl h)
              · exact .inr (.inr h)
              · exact .inl h
          · simp only [List.map_append, List.map_cons, List.map_nil, List.mem_append, List.mem_singleton] at hk
            rcases hk with h | rfl
            · exact hi.un k h
            · exact hiL
          · simp only [List.map_append, List.map_cons, List.map_nil]
            refine List.nodup_append.2 ⟨hi.nd, by simp, fun x hx y hy => ?_⟩
            simp at hy; subst hy; exact fun e => hipd (e ▸ hx)
          · simp only [List.map_append, List.map_cons, List.map_nil, List.mem_append, List.mem_singleton] at hk ⊢
            exact hk.imp (hi.mem k) id
          · rcases List.mem_append.1 hk with h | h
            · exact hi.ok k h
            · simp at h; subst h; exact hpok
          · simp only [List.map_append, List.map_cons, List.map_nil, List.mem_append, List.mem_singleton] at hk
            rcases hk with h | rfl
            · exact hi.lt k h
            · exact hlt
          · simp only [List.map_append, List.map_cons, List.map_nil] at he
            rcases List.append_eq_append_iff.1 he with ⟨t, h1, h2⟩ | ⟨t, h1, h2⟩
            · cases t with
              | nil =>
                simp only [List.nil_append, List.append_nil] at h1 h2
                simp only [List.cons.injEq] at h2
                obtain ⟨rfl, _⟩ := h2
                rw [h1]
                exact (hi.iff d).1 (hdeps d hd)
              | cons y t =>
                simp only [List.cons_append, List.cons.injEq] at h2
                obtain ⟨_, h2⟩ := h2
                simp at h2
            · cases t with
              | nil =>
                simp only [List.nil_append, List.append_nil] at h1 h2
                simp only [List.cons.injEq] at h2
                obtain ⟨rfl, _⟩ := h2
                rw [← h1]
                exact (hi.iff d).1 (hdeps d hd)
              | cons y t =>
                simp only [List.cons_append, List.cons.injEq] at h2
                obtain ⟨rfl, h2⟩ := h2
                exact hi.ord l1 k t h1 d hd
        · rw [hfill, hdst]
          exact Good.put (fun t ht => by cases ht; exact hin i s hs) hsz hdf (hr.setVal1 hrep)
        · rw [hfill]
          rcases List.mem_append.1 hq with hq | hq
          · obtain ⟨oq, hoq, hyq⟩ := hg.yields q hq
            refine ⟨oq, hoq, hyq.of_same ?_ ?_⟩
            all_goals
              have hqm : q.1 ∈ pend.map Prod.fst := List.mem_map.2 ⟨q, hq, rfl⟩
              have hlk : ∀ d, some s = some d → d ∉ oq.looksAt ops := fun d hd hl => by
                cases hd
                have hne : q.1 ≠ i := fun e => hipd (e ▸ hqm)
                have := (hoth q.1 hne).2 (by simpa [looksOf, hoq] using hl)
                obtain ⟨m1, m2, hm⟩ := List.append_of_mem hqm
                rcases hi.ord m1 q.1 m2 hm i this with h | h
                · exact hiL h
                · exact hipd (by rw [hm]; simp [h])
            · exact execOp_put oq (fun cs b => Region.noSelect_spec hns q.1 oq cs b hoq) _ _ _ hlk
            · exact wanted_put oq _ _ _ hlk
          · simp only [List.mem_singleton] at hq; subst hq
            have hlk : ∀ d, some s = some d → d ∉ o.looksAt ops := fun d hd => by cases hd; rw [← hlook]; exact hself
            exact ⟨o, ho, hy.of_same (execOp_put o hsel _ _ _ hlk) (wanted_put o _ _ _ hlk)⟩
      · exact hv.elim
    · exact hv.elim
  · have hsc0 := hsc
    have hv0 := hv
    simp only [schedOk, Bool.and_eq_true, beq_iff_eq, List.all_eq_true, Bool.or_eq_true, List.contains_eq_mem, decide_eq_true_eq] at hsc
    obtain ⟨⟨⟨hrdy, heok⟩, hchk⟩, hrest⟩ := hsc
    have hjr : j ∈ Region.ready .any ops Lp := by rw [hrdy]; simp
    refine ⟨fun h0 => absurd h0 (ready_ne hi hjr), fun k hk => ?_⟩
    by_cases hkp : k ∈ pend.map Prod.fst
    · exact hpend (.eff j chk r) hsc0 hv0 k hk hkp
    · have hkj : k = j := by have := ready_up hi hk hkp; rw [hrdy] at this; simpa using this
      subst hkj
      exact heff k chk r hjr heok hchk hrest hv hk hkp
  · have hsc0 := hsc
    have hv0 := hv
    simp only [schedOk, Bool.and_eq_true, beq_iff_eq, List.all_eq_true, Bool.or_eq_true, List.contains_eq_mem, decide_eq_true_eq] at hsc
    obtain ⟨⟨hrdy, ⟨heok1, hchk1⟩, hrest1⟩, ⟨heok2, hchk2⟩, hrest2⟩ := hsc
    have hjr1 : j1 ∈ Region.ready .any ops Lp := by rw [hrdy]; simp
    have hjr2 : j2 ∈ Region.ready .any ops Lp := by rw [hrdy]; simp
    refine ⟨fun h0 => absurd h0 (ready_ne hi hjr1), fun k hk => ?_⟩
    by_cases hkp : k ∈ pend.map Prod.fst
    · exact hpend (.alt j1 c1 r1 j2 c2 r2) hsc0 hv0 k hk hkp
    · have hkj : k = j1 ∨ k = j2 := by have := ready_up hi hk hkp; rw [hrdy] at this; simpa using this
      rcases hkj with rfl | rfl
      · exact heff k c1 r1 hjr1 heok1 hchk1 hrest1 hv.1 hk hkp
      · exact heff k c2 r2 hjr2 heok2 hchk2 hrest2 hv.2 hk hkp
  · have hsc0 := hsc
    have hv0 := hv
    simp only [schedOk, Bool.and_eq_true, beq_iff_eq, List.all_eq_true, Bool.or_eq_true, List.contains_eq_mem, decide_eq_true_eq] at hsc
    obtain ⟨⟨⟨hrdy, ⟨heok1, hchk1⟩, hrest1⟩, ⟨heok2, hchk2⟩, hrest2⟩, ⟨heok3, hchk3⟩, hrest3⟩ := hsc
    have hjr1 : j1 ∈ Region.ready .any ops Lp := by rw [hrdy]; simp
    have hjr2 : j2 ∈ Region.ready .any ops Lp := by rw [hrdy]; simp
    have hjr3 : j3 ∈ Region.ready .any ops Lp := by rw [hrdy]; simp
    refine ⟨fun h0 => absurd h0 (ready_ne hi hjr1), fun k hk => ?_⟩
    by_cases hkp : k ∈ pend.map Prod.fst
    · exact hpend (.alt3 j1 c1 r1 j2 c2 r2 j3 c3 r3) hsc0 hv0 k hk hkp
    · have hkj : k = j1 ∨ k = j2 ∨ k = j3 := by have := ready_up hi hk hkp; rw [hrdy] at this; simpa using this
      rcases hkj with rfl | rfl | rfl
      · exact heff k c1 r1 hjr1 heok1 hchk1 hrest1 hv.1 hk hkp
      · exact heff k c2 r2 hjr2 heok2 hchk2 hrest2 hv.2.1 hk hkp
      · exact heff k c3 r3 hjr3 heok3 hchk3 hrest3 hv.2.2 hk hkp

/-- One schedule stands for all orders. -/
theorem any_of_sched (sc : Sched) (hns : Region.noSelect ops = true) (hin : dstsIn ops n) (hsc : schedOk ops (Array.replicate ops.size false) [] sc = true) {K : AS → Prop} {Q : Exit → Act → World → Prop} (hQ : ∀ ch a w, ¬ Q (.panic ch) a w) (hn : ∀ σ' a' w', K σ' → Good P c n σ' a' w' → Q .normal a' w')
    {σ : AS} {a : Act} {w : World} (hg : Good P c n σ a w) (hv : vcSched P fz ops sc σ K) : wpAny P .any ops Q ops.size (Array.replicate ops.size false) a w := by
  have h0 : ∀ i, ¬ lst (Array.replicate ops.size false) i := fun i => by
    simp only [lst, Array.getD_eq_getD_getElem?, Array.getElem?_replicate]
    split <;> simp
  refine sched_sound hns hin hQ hn ops.size sc _ _ [] [] σ a w hsc ?_ ?_ hv ⟨hg, by simp⟩
  · exact ⟨by simp, by simp, fun i => by simp, by simp, by simp, by simp, by simp, by simp, fun i h => absurd h (h0 i), fun l1 i l2 he => by simp at he⟩
  · unfold unl
    exact Nat.le_trans List.countP_le_length (by simp)

end
end Go.Fw

/- Code: what is to be shown of it, and that it suffices; a function's contract out of its body. -/
namespace Go.Fw
open Go

inductive Ex where
  | normal
  | exit (id : Nat)
  | ret

/-- Whatever is the first state is the second one, too. -/
def Wk (P : Program) (σ σ' : AS) : Prop := ∀ (c : Ctx) (ρ : Nat → Value) (w : World) (loc : Nat → Option (Nat × Nat)), RepL P c σ ρ w [] [] loc → ∃ loc', RepL P c σ' ρ w [] [] loc'

theorem Wk.refl (P : Program) (σ : AS) : Wk P σ σ := fun _ _ _ l h => ⟨l, h⟩
theorem Wk.trans {P : Program} {a b d : AS} (h : Wk P a b) (k : Wk P b d) : Wk P a d := fun c ρ w l hr => let ⟨l', h'⟩ := h c ρ w l hr; k c ρ w l' h'

def seqQ (n : AS → Prop) (Q : Ex → AS → Prop) : Ex → AS → Prop
  | .normal, σ => n σ
  | e, σ => Q e σ
def blockQ (id : Nat) (Q : Ex → AS → Prop) : Ex → AS → Prop
  | .exit id', σ => if id' = id then Q .normal σ else Q (.exit id') σ
  | e, σ => Q e σ
def loopQ {G : Type} (P : Program) (I : G → AS) (μ : G → Nat) (g : G) (Q : Ex → AS → Prop) : Ex → AS → Prop
  | .normal, σ => ∃ g', Wk P σ (I g') ∧ μ g' < μ g
  | e, σ => Q e σ
def LoopVC (P : Program) (body : AS → (Ex → AS → Prop) → Prop) (σ : AS) (Q : Ex → AS → Prop) : Prop :=
  ∃ (G : Type) (I : G → AS) (μ : G → Nat) (g0 : G), Wk P σ (I g0) ∧ ∀ g, body (I g) (loopQ P I μ g Q)

/-- A region that draws its order: one schedule; and behind it, if need be, states that are written out. -/
def AnyV0 (P : Program) (fz : List Nat) (ops : Array Oper) (σ : AS) (K : AS → Prop) : Prop :=
  (∃ sc : Sched, (Region.noSelect ops && schedOk ops (Array.replicate ops.size false) [] sc) = true ∧ vcSched P fz ops sc σ K) ∨
  ∃ (sc : Sched) (G : Type) (I : G → AS) (J : AS → G → Prop), (∀ σ g, J σ g → Wk P σ (I g)) ∧ (Region.noSelect ops && schedOk ops (Array.replicate ops.size false) [] sc) = true ∧ (vcSched P fz ops sc σ fun σ' => ∃ g, J σ' g) ∧ ∀ g, K (I g)

/-- The same, the state being weakened first. -/
def AnyVC (P : Program) (fz : List Nat) (ops : Array Oper) (σ : AS) (K : AS → Prop) : Prop := ∃ σ', Wk P σ σ' ∧ AnyV0 P fz ops σ' K
theorem AnyVC.pre {P : Program} {fz : List Nat} {ops : Array Oper} {σ σ' : AS} {K : AS → Prop} (hw : Wk P σ σ') (h : AnyVC P fz ops σ' K) : AnyVC P fz ops σ K :=
  let ⟨σ2, h1, h2⟩ := h
  ⟨σ2, hw.trans h1, h2⟩
theorem AnyVC.one {P : Program} {fz : List Nat} {ops : Array Oper} {σ : AS} {K : AS → Prop} (sc : Sched) (h : (Region.noSelect ops && schedOk ops (Array.replicate ops.size false) [] sc) = true) (hv : vcSched P fz ops sc σ K) : AnyVC P fz ops σ K := ⟨σ, Wk.refl P σ, .inl ⟨sc, h, hv⟩⟩
theorem AnyVC.cut {P : Program} {fz : List Nat} {ops : Array Oper} {σ : AS} {K : AS → Prop} (G : Type) (I : G → AS) (sc : Sched) (h : (Region.noSelect ops && schedOk ops (Array.replicate ops.size false) [] sc) = true) (hv : vcSched P fz ops sc σ fun σ' => ∃ g, Wk P σ' (I g)) (hk : ∀ g, K (I g)) : AnyVC P fz ops σ K := ⟨σ, Wk.refl P σ, .inr ⟨sc, G, I, fun σ g => Wk P σ (I g), fun _ _ h => h, h, hv, hk⟩⟩

def condVC (x : AV) (a b : Prop) : Prop :=
  match x with
  | .d (.bool p) => (p = true → a) ∧ (p = false → b)
  | _ => False

def VC (P : Program) (fz : List Nat) : Code → AS → (Ex → AS → Prop) → Prop
  | .skip, σ, Q => Q .normal σ
  | .region _ ops draw, σ, Q => match draw with
    | false => vcOps P fz ops ops.toList σ (Q .normal)
    | true => AnyVC P fz ops σ (Q .normal)
  | .seq a b, σ, Q => VC P fz a σ (seqQ (fun σ' => VC P fz b σ' Q) Q)
  | .cond c a b, σ, Q => condVC (σ.opd c) (VC P fz a σ Q) (VC P fz b σ Q)
  | .block id c, σ, Q => VC P fz c σ (blockQ id Q)
  | .exit id, σ, Q => Q (.exit id) σ
  | .ret, σ, Q => Q .ret σ
  | .loop c, σ, Q => LoopVC P (VC P fz c) σ Q
  | _, _, _ => False

/-- All that the code writes lies within 'n' slots. -/
def slotsOk (n : Nat) : Code → Bool
  | .region _ ops _ => ops.all fun o => match o.dst with | some t => decide (t < n) | none => true
  | .seq a b => slotsOk n a && slotsOk n b
  | .cond _ a b => slotsOk n a && slotsOk n b
  | .block _ c => slotsOk n c
  | .loop c => slotsOk n c
  | _ => true

section
variable {P : Program} {c : Ctx} {n : Nat} {fz : List Nat}

def exOf : Exit → Option Ex
  | .normal => some .normal
  | .exit id => some (.exit id)
  | .ret => some .ret
  | _ => none

/-- The postcondition of code, from that over states. -/
def liftQ (P : Program) (c : Ctx) (n : Nat) (Q : Ex → AS → Prop) (e : Exit) (a : Act) (w : World) : Prop :=
  ∃ ex σ, exOf e = some ex ∧ Q ex σ ∧ Good P c n σ a w

theorem ops_dst {ops : Array Oper} (h : (ops.all fun o => match o.dst with | some t => decide (t < n) | none => true) = true) {i : Nat} {o : Oper} (ho : ops[i]? = some o) : ∀ t, o.dst = some t → t < n := by
  intro t ht
  rw [Array.all_eq_true'] at h
  have := h o (Array.mem_of_getElem? ho)
  rw [ht] at this
  simpa using this

theorem vcOps_sound {ops : Array Oper} (hops : (ops.all fun o => match o.dst with | some t => decide (t < n) | none => true) = true) : ∀ (l : List Oper) (σ : AS) (a : Act) (w : World) {K : AS → Prop} {Q : Exit → Act → World → Prop}, (∀ o ∈ l, ∃ i : Nat, ops[i]? = some o) → Good P c n σ a w → vcOps P fz ops l σ K →
    (∀ σ' a' w', K σ' → Good P c n σ' a' w' → Q .normal a' w') → wpList P ops Q l a w
  | [], σ, a, w, K, Q, _, hg, hv, hn => hn σ a w hv hg
  | o :: r, σ, a, w, K, Q, hl, hg, hv, hn => by
    obtain ⟨i, hi⟩ := hl o (by simp)
    have := vcOp_sound (N := wpList P ops Q r) (Q := Q) hg (ops_dst hops hi) (fun j b _ t ht => by
      cases hj : ops[j]? with
      | none => simp [hj] at ht
      | some oj => rw [hj] at ht; exact ops_dst hops hj t ht) hv fun σ' a' w' hk hg' => vcOps_sound hops r σ' a' w' (fun o ho => hl o (by simp [ho])) hg' hk hn
    unfold wpList
    split
    · rename_i hw; rw [if_pos hw] at this; exact .inl this
    · rename_i hw; rw [if_neg hw] at this; exact this

theorem Good.wk {σ σ' : AS} {a : Act} {w : World} (h : Good P c n σ a w) (hw : Wk P σ σ') : Good P c n σ' a w :=
  let ⟨⟨l, hr⟩, h2, h3⟩ := h
  ⟨hw c _ w l hr, h2, h3⟩

theorem Good.drawn {σ : AS} {a : Act} {w : World} (h : Good P c n σ a w) (k : Nat) : Good P c n σ a { w with drawn := k } :=
  let ⟨⟨l, hr⟩, h2, h3⟩ := h
  ⟨⟨l, hr.ext' (ExtW.drawn w k)⟩, h2, h3⟩

/-- What is shown of code suffices. -/
theorem VC_sound (hm : P.follows .mixedOrders = true) : ∀ (code : Code) (σ : AS) (Q : Ex → AS → Prop) (a : Act) (w : World), slotsOk n code = true → Good P c n σ a w → VC P fz code σ Q → code.wp P (liftQ P c n Q) a w
  | .skip, σ, Q, a, w, _, hg, hv => wp_skip ⟨.normal, σ, rfl, hv, hg⟩
  | .region id ops false, σ, Q, a, w, hs, hg, hv => by
    refine wp_region_list ?_
    exact vcOps_sound (by simpa [slotsOk] using hs) ops.toList σ a w (fun o ho => by
      obtain ⟨i, hi⟩ := List.mem_iff_getElem?.1 ho
      exact ⟨i, by rwa [Array.getElem?_toList] at hi⟩) hg hv fun σ' a' w' hk hg' => ⟨.normal, σ', rfl, hk, hg'⟩
  | .region id ops true, σ, Q, a, w, hs, hg, hv => by
    refine wp_region_any hm ?_
    obtain ⟨σ1, hw1, hv⟩ := hv
    replace hg := hg.wk hw1
    rcases hv with ⟨sc, h1, h2⟩ | ⟨sc, G, I, J, h0, h1, h2, h3⟩
    · simp only [Bool.and_eq_true] at h1
      refine any_of_sched sc h1.1 (fun i d hd => ?_) h1.2 (fun ch a w ⟨ex, σ', he, _⟩ => by simp [exOf] at he) (fun σ' a' w' hk hg' => ⟨.normal, σ', rfl, hk, hg'⟩) (hg.drawn _) h2
      cases ho : ops[i]? with
      | none => simp [dstOf, ho] at hd
      | some o => exact ops_dst (by simpa [slotsOk] using hs) ho d (by simpa [dstOf, ho] using hd)
    · simp only [Bool.and_eq_true] at h1
      refine any_of_sched sc h1.1 (fun i d hd => ?_) h1.2 (fun ch a w ⟨ex, σ', he, _⟩ => by simp [exOf] at he) (fun σ' a' w' ⟨g, hk⟩ hg' => ⟨.normal, I g, rfl, h3 g, hg'.wk (h0 _ _ hk)⟩) (hg.drawn _) h2
      cases ho : ops[i]? with
      | none => simp [dstOf, ho] at hd
      | some o => exact ops_dst (by simpa [slotsOk] using hs) ho d (by simpa [dstOf, ho] using hd)
  | .seq x y, σ, Q, a, w, hs, hg, hv => by
    simp only [slotsOk, Bool.and_eq_true] at hs
    refine wp_seq (wp_mono (VC_sound hm x σ _ a w hs.1 hg hv) fun e a' w' ⟨ex, σ', he, hq, hg'⟩ => ?_)
    cases e <;> simp only [exOf, Option.some.injEq] at he <;> first | (cases he; done) | skip
    · subst he; exact VC_sound hm y σ' Q a' w' hs.2 hg' hq
    · subst he; exact ⟨_, σ', rfl, hq, hg'⟩
    · subst he; exact ⟨_, σ', rfl, hq, hg'⟩
  | .cond x y z, σ, Q, a, w, hs, hg, hv => by
    simp only [slotsOk, Bool.and_eq_true] at hs
    simp only [VC] at hv
    unfold condVC at hv
    split at hv
    · rename_i p e
      obtain ⟨⟨l, hr⟩, h2, h3⟩ := hg
      have hx := hr.opd x
      rw [e] at hx
      have hval : a.eval x = .bool p := by rw [act_eval]; exact hx.inv_bool
      refine wp_cond_split hval (fun hp => ?_) (fun hp => ?_)
      · exact VC_sound hm y σ Q a w hs.1 ⟨⟨l, hr⟩, h2, h3⟩ (hv.1 hp)
      · exact VC_sound hm z σ Q a w hs.2 ⟨⟨l, hr⟩, h2, h3⟩ (hv.2 hp)
    · exact hv.elim
  | .block id x, σ, Q, a, w, hs, hg, hv => by
    simp only [slotsOk] at hs
    refine wp_block (wp_mono (VC_sound hm x σ _ a w hs hg hv) fun e a' w' ⟨ex, σ', he, hq, hg'⟩ => ?_)
    cases e <;> simp only [exOf, Option.some.injEq] at he <;> first | (cases he; done) | skip
    · subst he; exact ⟨_, σ', rfl, hq, hg'⟩
    · rename_i id'
      subst he
      simp only [blockQ] at hq
      simp only [Exit.inBlock]
      split at hq
      · rename_i h1; rw [if_pos h1]; exact ⟨_, σ', rfl, hq, hg'⟩
      · rename_i h1; rw [if_neg h1]; exact ⟨_, σ', rfl, hq, hg'⟩
    · subst he; exact ⟨_, σ', rfl, hq, hg'⟩
  | .exit id, σ, Q, a, w, _, hg, hv => wp_exit ⟨.exit id, σ, rfl, hv, hg⟩
  | .ret, σ, Q, a, w, _, hg, hv => wp_ret ⟨.ret, σ, rfl, hv, hg⟩
  | .loop x, σ, Q, a, w, hs, hg, hv => by
    simp only [slotsOk] at hs
    obtain ⟨G, I, μ, g0, h0, hround⟩ := hv
    intro b kk cs
    have key : ∀ (k : Nat) (g : G) (a : Act) (w : World), μ g = k → Good P c n (I g) a w →
        ∃ e a' w', liftQ P c n Q e a' w' ∧ Arrives P (lone (b.at a (.code x :: .inLoop x :: kk)) cs w) b kk cs e a' w' := by
      intro k
      induction k using Nat.strongRecOn with
      | _ k ih =>
        intro g a w hk hg'
        have hb := VC_sound hm x (I g) _ a w hs hg' (hround g)
        obtain ⟨e, a1, w1, hq, harr⟩ := hb b (.inLoop x :: kk) cs
        obtain ⟨ex, σ', he, hq', hg1⟩ := hq
        cases e <;> simp only [exOf, Option.some.injEq] at he <;> first | (cases he; done) | skip
        · subst he
          obtain ⟨g', hw', hlt⟩ := hq'
          obtain ⟨e2, a2, w2, hq2, harr2⟩ := ih (μ g') (hk ▸ hlt) g' a1 w1 rfl (hg1.wk hw')
          exact ⟨e2, a2, w2, hq2, .of_steps (Steps.trans harr (.one step_inLoop)) harr2⟩
        · subst he; exact ⟨_, a1, w1, ⟨_, σ', rfl, hq', hg1⟩, .pass (x := .inLoop x) rfl (fun _ _ => .inl (by simp)) harr⟩
        · subst he; exact ⟨_, a1, w1, ⟨_, σ', rfl, hq', hg1⟩, .pass (x := .inLoop x) rfl (fun _ _ => .inl (by simp)) harr⟩
    obtain ⟨e, a', w', hq, harr⟩ := key _ g0 a w rfl (hg.wk h0)
    exact ⟨e, a', w', hq, .of_steps (.one step_loop) harr⟩
  | .rangeFunc _ _ _ _, _, _, _, _, _, _, hv => hv.elim
  | .scope _, _, _, _, _, _, _, hv => hv.elim
  | .label _, _, _, _, _, _, _, hv => hv.elim
  | .goto _, _, _, _, _, _, _, hv => hv.elim
  | .refuse _, _, _, _, _, _, _, hv => hv.elim

/-! ### A function -/

/-- What a function hands back. -/
def resOne (P : Program) (σ : AS) : ResultVar → PA
  | .tmp t => (True, σ.sl t)
  | .cell a t => fLoad P t σ.hp (σ.sl a)
def resAll (P : Program) (σ : AS) : List ResultVar → Prop × List AV
  | [] => (True, [])
  | r :: l => ((resOne P σ r).1 ∧ (resAll P σ l).1, (resOne P σ r).2 :: (resAll P σ l).2)
def resAV (P : Program) (σ : AS) (l : List ResultVar) : PA :=
  match (resAll P σ l).2 with
  | [x] => ((resAll P σ l).1, x)
  | xs => ((resAll P σ l).1, .tp xs)

/-- The result and the blocks that are handed back, out of the state at the end. -/
def RetVC (P : Program) (keys : List Nat) (σ : AS) (x : AV) (K : AV → List Blk → List (Nat × Blk) → Prop) : Prop :=
  ∃ x' bs res, K x' bs res ∧ bs.length = keys.length ∧ (∀ p ∈ res, (100 ≤ p.1 ∧ p.1 < 1000000000000)) ∧
    ∀ (c : Ctx) (ρ : Nat → Value) (w : World) (v : Value) (loc : Nat → Option (Nat × Nat)), RepL P c σ ρ w [v] [x] loc → ∃ loc', RepL P c (st (keys.zip bs ++ res)) (fun _ => undef) w [v] [x'] loc'

def retQ (P : Program) (keys : List Nat) (rs : List ResultVar) (K : AV → List Blk → List (Nat × Blk) → Prop) : Ex → AS → Prop
  | .exit _, _ => False
  | _, σ => (resAV P σ rs).1 ∧ RetVC P keys σ (resAV P σ rs).2 K

/-- The state at a function's entry. -/
def entryS (args : List AV) (hs : List (Nat × Blk)) : AS := ⟨fun s => (args[s]?).getD .unk, hpOf hs, (st hs).used⟩

theorem results_ok {fn : Func} {σ : AS} {a : Act} {w : World} {loc : Nat → Option (Nat × Nat)} (h : RepL P c σ (fun s => a.tmps.getD s undef) w [] [] loc) (hp : (resAV P σ fn.results.toList).1) :
    ∃ v, (results fn a.tmps).run P w = .ok v w ∧ RepA P w (okOf c w σ.hp loc) loc v (resAV P σ fn.results.toList).2 := by
  have one : ∀ r : ResultVar, (resOne P σ r).1 → ∃ v, ((match r with | .tmp t => pure (a.tmps.getD t undef) | .cell x t => do loadVar t (← asAddr (a.tmps.getD x undef)) : Sem Value)).run P w = .ok v w ∧ RepA P w (okOf c w σ.hp loc) loc v (resOne P σ r).2 := by
    intro r hr
    cases r with
    | tmp t => exact ⟨_, rfl, h.slots t⟩
    | cell x t =>
      obtain ⟨u, hu, hr'⟩ := h.load hr (h.slots x)
      refine ⟨u, ?_, hr'⟩
      have hs := h.slots x
      simp only [Instr.loadAt, Sem.run_bind] at hu
      simp only [Sem.run_bind]
      generalize hv : a.tmps.getD x undef = v at hs hu ⊢
      have hptr : ∃ q, v = .pointer (some q) := by
        simp only [resOne] at hr
        unfold fLoad at hr
        split at hr
        · rename_i e; rw [e] at hs; cases hs with | ptr _ => exact ⟨_, rfl⟩
        · rename_i e; rw [e] at hs; cases hs with | dp _ _ _ _ _ => exact ⟨_, rfl⟩
        · rename_i e; rw [e] at hs; cases hs with | ep _ => exact ⟨_, rfl⟩
        · exact hr.elim
      obtain ⟨q, rfl⟩ := hptr
      simpa [Instr.sureAddr, asAddr] using hu
  have all : ∀ l : List ResultVar, (resAll P σ l).1 → ∃ vs : List Value, (l.mapM (m := Sem) fun r => match r with | .tmp t => pure (a.tmps.getD t undef) | .cell x t => do loadVar t (← asAddr (a.tmps.getD x undef))).run P w = .ok vs w ∧
      vs.length = (resAll P σ l).2.length ∧ ∀ (i : Nat) v x, vs[i]? = some v → (resAll P σ l).2[i]? = some x → RepA P w (okOf c w σ.hp loc) loc v x := by
    intro l
    induction l with
    | nil => intro _; exact ⟨[], rfl, rfl, fun i v x hv => by simp at hv⟩
    | cons r l ih =>
      intro hl
      obtain ⟨v, hv, hr⟩ := one r hl.1
      obtain ⟨vs, hvs, hlen, hr2⟩ := ih hl.2
      refine ⟨v :: vs, ?_, by simp [resAll, hlen], fun i u x hu hx => ?_⟩
      · rw [List.mapM_cons, Sem.run_bind, hv, Result.andThen_ok, Sem.run_bind, hvs]; rfl
      · cases i with
        | zero => simp [resAll] at hu hx; subst hu; subst hx; exact hr
        | succ i => simp [resAll] at hu hx; exact hr2 i u x hu hx
  have hp1 : (resAll P σ fn.results.toList).1 := by
    unfold resAV at hp; split at hp <;> exact hp
  obtain ⟨vs, hvs, hlen, hr⟩ := all fn.results.toList hp1
  have hmap : (results fn a.tmps).run P w = .ok (if h : vs.toArray.size = 1 then vs.toArray[0] else .tuple vs.toArray) w := by
    unfold results
    rw [Array.mapM_eq_mapM_toList, Sem.run_bind, Sem.run_map]
    erw [hvs]
    rfl
  refine ⟨_, hmap, ?_⟩
  unfold resAV
  generalize (resAll P σ fn.results.toList).2 = l2 at hlen hr ⊢
  clear hmap hvs
  match l2, vs, hlen, hr with
  | [], [], _, _ => exact .tp rfl fun i v x hv => by simp at hv
  | [x], [v], _, hr => exact hr 0 v x rfl rfl
  | x :: y :: r, v :: u :: t, hlen, hr =>
    have hn1 : ¬ (v :: u :: t).toArray.size = 1 := by simp
    rw [dif_neg hn1]
    exact .tp (by simpa using hlen) fun i v x hv hx => hr i v x (by simpa using hv) hx

/-- The contract of a function, out of its body. -/
theorem acalls_of_vcQ {f : FuncId} {fn : Func} {code : Code} (hm : P.follows .mixedOrders = true) (hf : P.funcs[f]? = some fn) (hb : fn.body = some code) (fz : List Nat) (hst : slotsOk fn.ntmps code = true) {args : List AV} {hs : List (Nat × Blk)} {K : AV → List Blk → List (Nat × Blk) → Prop}
    (hargs : args.length ≤ fn.ntmps) {Q : Ex → AS → Prop} (hQ : ∀ ex σ, Q ex σ → retQ P (hs.map Prod.fst) fn.results.toList K ex σ) (hv : VC P fz code (entryS args hs) Q) : ACalls P f args hs K := by
  intro c vals hr
  refine calls_of_wp hf hb ?_
  have hsize : vals.length ≤ fn.ntmps := by rw [hr.len]; exact hargs
  have hgood : Good P c fn.ntmps (entryS args hs) { tmps := vals.toArray ++ Array.replicate (fn.ntmps - vals.toArray.size) undef, defers := [] } c.w0 := by
    refine ⟨⟨c.floc, fun s => ?_, rfl, fun i v x hv => by simp at hv, hr.heap, hr.inj, hr.own, hr.ext, hr.fix, hr.dom, hr.liveU⟩, by simp; omega, rfl⟩
    simp only [entryS]
    by_cases hs' : s < vals.length
    · have h1 : (vals.toArray ++ Array.replicate (fn.ntmps - vals.toArray.size) undef).getD s undef = vals[s] := by
        rw [Array.getD_eq_getD_getElem?, Array.getElem?_append, if_pos (by simpa using hs')]; simp [hs']
      have hs2 : s < args.length := by rw [← hr.len]; exact hs'
      rw [h1, List.getElem?_eq_getElem hs2]
      exact hr.vals s vals[s] args[s] (List.getElem?_eq_getElem hs') (List.getElem?_eq_getElem hs2)
    · have hs2 : args.length ≤ s := by rw [← hr.len]; omega
      rw [List.getElem?_eq_none hs2]; exact .unk _
  refine wp_mono (VC_sound hm code _ _ _ _ hst hgood hv) fun e a w ⟨ex, σ', he, hq, hg⟩ => ?_
  replace hq := hQ ex σ' hq
  have fin : (resAV P σ' fn.results.toList).1 ∧ RetVC P (hs.map Prod.fst) σ' (resAV P σ' fn.results.toList).2 K → a.defers = [] ∧ ∃ v, (results fn a.tmps).run P w = .ok v w ∧ ∃ v' x bs res loc', Ending.returned v = .returned v' ∧ K x bs res ∧ bs.length = hs.length ∧ (∀ p ∈ res, (100 ≤ p.1 ∧ p.1 < 1000000000000)) ∧
      RepL P c (st ((hs.map Prod.fst).zip bs ++ res)) (fun _ => undef) w [v'] [x] loc' := by
    intro ⟨hp, x', bs, res, hk, hbl, hres, hret⟩
    obtain ⟨⟨l, hrep⟩, _, hdf⟩ := hg
    obtain ⟨v, hv, hr⟩ := results_ok hrep hp
    obtain ⟨loc', hfin⟩ := hret c _ w v l (hrep.setVal1 hr)
    exact ⟨hdf, v, hv, v, x', bs, res, loc', rfl, hk, by simpa using hbl, hres, hfin⟩
  cases e <;> simp only [exOf, Option.some.injEq] at he <;> first | (cases he; done) | skip
  · subst he; exact fin hq
  · subst he; exact hq.elim
  · subst he; exact fin hq

theorem acalls_of_vc {f : FuncId} {fn : Func} {code : Code} (hm : P.follows .mixedOrders = true) (hf : P.funcs[f]? = some fn) (hb : fn.body = some code) (fz : List Nat) (hst : slotsOk fn.ntmps code = true) {args : List AV} {hs : List (Nat × Blk)} {K : AV → List Blk → List (Nat × Blk) → Prop}
    (hargs : args.length ≤ fn.ntmps) (hv : VC P fz code (entryS args hs) (retQ P (hs.map Prod.fst) fn.results.toList K)) : ACalls P f args hs K :=
  acalls_of_vcQ hm hf hb fz hst hargs (fun _ _ h => h) hv

end
end Go.Fw

/- Calls, returns and loops: the rules that a proof uses. -/
namespace Go.Fw
open Go

/-! ### What a function hands back -/

def keepP (E : List (Nat × Blk)) (id : Nat) : Bool := !(decide ((id < 100 ∨ 1000000000000 ≤ id)) || (lookH E id).isSome)

section
variable {P : Program} {c : Ctx} {σ : AS} {ρ : Nat → Value} {w : World} {loc : Nat → Option (Nat × Nat)}

theorem RepL.cut {vs : List Value} {xs : List AV} (h : RepL P c σ ρ w vs xs loc) (E : List (Nat × Blk)) (hE : ∀ id b, lookH E id = some b → σ.hp.heap id = some b ∧ b.kp (keepP E) = b) (hx : ∀ x ∈ xs, x.kp (keepP E) = x) :
    ∃ loc', RepL P c (st E) (fun _ => undef) w vs xs loc' := by
  let loc' : Nat → Option (Nat × Nat) := fun id => if keepP E id = true then none else loc id
  have hl : ∀ id, keepP E id = false → loc' id = loc id := fun id hid => by simp only [loc', hid, Bool.false_eq_true, if_false]
  have hl2 : ∀ id q, loc' id = some q → loc id = some q := fun id q hq => by
    simp only [loc'] at hq
    split at hq
    · cases hq
    · exact hq
  have hkp : ∀ id b, lookH E id = some b → keepP E id = false := fun id b hb => by simp [keepP, hb]
  have hlv : ∀ id, Live (hpOf E) id → Live σ.hp id ∧ keepP E id = false := fun id hl => by
    cases hb : lookH E id with
    | none => simp [Live, hpOf, hb] at hl
    | some b => exact ⟨by simp [Live, (hE id b hb).1], hkp id b hb⟩
  have hk : ∀ b, okOf c w σ.hp loc b → okOf c w (hpOf E) loc' b ∧ w.heap[b]? = w.heap[b]? := fun b ⟨h1, h2, h3⟩ =>
    ⟨⟨h1, h2, fun id δ hv he => h3 id δ (hlv id hv).1 (hl2 _ _ he)⟩, rfl⟩
  refine ⟨loc', fun s => .unk _, h.len, fun i v x hv hx' => ?_, fun id b hb => ?_, fun id id' b δ δ' l1 l2 e1 e2 => h.inj id id' b δ δ' (hlv id l1).1 (hlv id' l2).1 (hl2 _ _ e1) (hl2 _ _ e2),
    fun id b δ l1 e1 => h.own id b δ (hlv id l1).1 (hl2 _ _ e1), h.ext, fun id hid => ?_, fun id hid => ?_, fun id hid => ?_⟩
  · have := (h.vals i v x hv hx').mono_kp hk (Shapes.refl w) (keepP E) hl
    rwa [hx x (List.mem_of_getElem? hx')] at this
  · obtain ⟨h1, h2⟩ := hE id b hb
    have := (h.heap id b h1).mono_kp hk (Shapes.refl w) (keepP E) (hkp id b hb) hl fun _ _ _ => rfl
    rwa [h2] at this
  · rw [hl id (by simp [keepP, hid])]; exact h.fix id hid
  · have : keepP E id = true := by simpa [keepP, st] using hid
    simp only [loc', this, if_true]
  · have := (hlv id hid).2
    simp only [keepP, Bool.not_eq_false'] at this
    exact this

/-- The result is handed back as it is, with blocks of the state. -/
theorem RetVC.keep {keys : List Nat} {x : AV} {K : AV → List Blk → List (Nat × Blk) → Prop} (bs : List Blk) (res : List (Nat × Blk)) (hl : bs.length = keys.length) (hr : ∀ p ∈ res, (100 ≤ p.1 ∧ p.1 < 1000000000000))
    (hE : ∀ p ∈ keys.zip bs ++ res, σ.hp.heap p.1 = some p.2 ∧ p.2.kp (keepP (keys.zip bs ++ res)) = p.2) (hx : x.kp (keepP (keys.zip bs ++ res)) = x) (hk : K x bs res) : RetVC P keys σ x K :=
  ⟨x, bs, res, hk, hl, hr, fun _ _ _ _ _ h => h.cut _ (fun id b hb => hE (id, b) (lookH_some hb)) (by simpa using hx)⟩

/-- The result is a datum: nothing else is handed back. -/
theorem RetVC.d {y : D} {K : AV → List Blk → List (Nat × Blk) → Prop} (hk : K (.d y) [] []) : RetVC P [] σ (.d y) K :=
  .keep [] [] rfl (by simp) (by simp) rfl hk

/-- The result is handed back as a datum. -/
theorem RetVC.toD {x : AV} {p : Prop} {y : D} {l : List Nat} {K : AV → List Blk → List (Nat × Blk) → Prop} (hd : Fw.toD σ.hp x = some (p, y, l)) (hp : p) (hk : K (.d y) [] []) : RetVC P [] σ x K :=
  ⟨.d y, [], [], hk, rfl, by simp, fun c ρ w v loc h => by
    have hv := toD_rep h hd hp h.val1 (l' := l) fun i hi => hi
    exact ((RepL.dropL l h).setVal1 (.d hv)).cut [] (by simp [lookH]) (by simp [AV.kp])⟩

/-- A nil slice is handed back as an empty one. -/
theorem RetVC.nl {K : AV → List Blk → List (Nat × Blk) → Prop} (sz : Nat) (hu : σ.used 100 = false) (hk : K (.sl sz 100 0 0) [] [(100, .ar sz [])]) : RetVC P [] σ .nl K :=
  ⟨.sl sz 100 0 0, [], [(100, .ar sz [])], hk, rfl, by simp, fun c ρ w v loc h => by
    have hf : σ.free 100 := ⟨by omega, hu⟩
    have h2 := h.adopt 100 hf sz
    cases h.val1
    exact (h2.setVal1 (.sl0 none sz 100 0)).cut [(100, .ar sz [])] (fun id b hb => by
      simp only [lookH] at hb
      split at hb
      · rename_i he; subst he; simp only [Option.some.injEq] at hb; subst hb
        exact ⟨by simp [AS.new, HP.set, upd], rfl⟩
      · cases hb) (by simp [AV.kp, keepP, lookH])⟩

/-! ### Calls -/

/-- A cell as it is looked at by a callee. -/
def view1 (hp : HP) : AV → Option (Prop × AV × List Nat)
  | .clo S => some (True, .clo S, [])
  | x => (toD1 hp x).map fun p => (p.1, .d p.2.1, p.2.2)
def views1 (hp : HP) : List AV → Option (Prop × List AV × List Nat)
  | [] => some (True, [], [])
  | x :: r => match view1 hp x, views1 hp r with
    | some (p, y, l), some (q, ys, l') => some (p ∧ q, y :: ys, l ++ l')
    | _, _ => none
/-- An argument as it is looked at by a callee. -/
def viewB (hp : HP) : AV → Option (Prop × AV × List Nat)
  | .clo S => some (True, .clo S, [])
  | .dp cs => (views1 hp cs).map fun p => (p.1, .dp p.2.1, p.2.2)
  | .ptr id off => match hp.heap id with
    | some (.bx cs) => (views1 hp (cs.drop off)).map fun p => (p.1, .dp p.2.1, id :: p.2.2)
    | _ => none
  | x => (toD hp x).map fun p => (p.1, .d p.2.1, p.2.2)
def viewBs (hp : HP) : List AV → Option (Prop × List AV × List Nat)
  | [] => some (True, [], [])
  | x :: r => match viewB hp x, viewBs hp r with
    | some (p, y, l), some (q, ys, l') => some (p ∧ q, y :: ys, l ++ l')
    | _, _ => none
def AV.vw1 : AV → Bool
  | .d _ => true
  | .clo _ => true
  | _ => false
def AV.vw : AV → Bool
  | .dp cs => cs.all AV.vw1
  | x => x.vw1
/-- What a function value answers whose function, and what it holds, are known. -/
def cloS (P : Program) (g : FuncId) (first caps : List AV) (ds : List D) (K : D → Prop) : Prop :=
  ∃ R : D → Prop, ACalls P g (first ++ ds.map .d ++ caps) [] (fun x _ res => (∃ r, x = .d r ∧ R r) ∧ res = []) ∧ (∀ r, R r → r.flat = true) ∧ ∀ r, R r → K r
def viewA (P : Program) (hp : HP) : AV → Option (Prop × AV × List Nat)
  | .fv (.func g) first caps => match viewBs hp first, viewBs hp caps with
    | some (p, xs, l), some (q, ys, l') => some ((callable P g = true ∧ xs.all AV.vw = true ∧ ys.all AV.vw = true) ∧ p ∧ q, .clo (cloS P g xs ys), l ++ l')
    | _, _ => none
  | x => viewB hp x
def viewL (P : Program) (hp : HP) : List AV → Option (Prop × List AV × List Nat)
  | [] => some (True, [], [])
  | x :: r => match viewA P hp x, viewL P hp r with
    | some (p, y, l), some (q, ys, l') => some (p ∧ q, y :: ys, l ++ l')
    | _, _ => none

theorem RepA.mono_vw1 {w' : World} {ok ok' : Nat → Prop} {loc' : Nat → Option (Nat × Nat)} {v : Value} {x : AV} (h : RepA P w ok loc v x) (hx : x.vw1 = true) (hk : ∀ b, ok b → ok' b ∧ w'.heap[b]? = w.heap[b]?) : RepA P w' ok' loc' v x := by
  cases h with
  | d h => exact .d (h.mono hk)
  | clo h => exact .clo (h.mono hk)
  | _ => exact absurd hx (by simp [AV.vw1])
theorem RepA.mono_vw {w' : World} {ok ok' : Nat → Prop} {loc' : Nat → Option (Nat × Nat)} {v : Value} {x : AV} (h : RepA P w ok loc v x) (hx : x.vw = true) (hk : ∀ b, ok b → ok' b ∧ w'.heap[b]? = w.heap[b]?) : RepA P w' ok' loc' v x := by
  cases x with
  | dp cs =>
    simp only [AV.vw, List.all_eq_true] at hx
    cases h with | dp u h1 h2 h3 h4 =>
    exact .dp u (hk _ h1).1 ((hk _ h1).2.trans h2) h3 fun j y hy => (h4 j y hy).mono_vw1 (hx y (List.mem_of_getElem? hy)) hk
  | _ => exact h.mono_vw1 hx hk

theorem view1_rep {vs : List Value} {xs : List AV} (h : RepL P c σ ρ w vs xs loc) {x y : AV} {p : Prop} {l l' : List Nat} {v : Value} (hx : view1 σ.hp x = some (p, y, l)) (hp : p) (hs : ∀ i ∈ l, i ∈ l') (hv : RepA P w (okOf c w σ.hp loc) loc v x)
    (loc2 : Nat → Option (Nat × Nat)) : RepA P w (okOf c w (σ.hp.dropL l') loc) loc2 v y := by
  cases x with
  | clo S =>
    simp only [view1, Option.some.injEq, Prod.mk.injEq] at hx; obtain ⟨_, rfl, _⟩ := hx
    cases hv with | clo hv => exact .clo (hv.mono fun b hb => ⟨hb.dropL _ _, rfl⟩)
  | _ =>
    simp only [view1, Option.map_eq_some_iff] at hx
    obtain ⟨⟨p', y', l1⟩, hx, he⟩ := hx
    simp only [Prod.mk.injEq] at he; obtain ⟨rfl, rfl, rfl⟩ := he
    exact .d (toD1_rep h hx hp hv hs)

theorem views1_rep {vs : List Value} {xs : List AV} (h : RepL P c σ ρ w vs xs loc) (loc2 : Nat → Option (Nat × Nat)) : ∀ {cs ys : List AV} {p : Prop} {l l' : List Nat}, views1 σ.hp cs = some (p, ys, l) → p → (∀ i ∈ l, i ∈ l') →
    ys.length = cs.length ∧ ∀ (i : Nat) v x y, cs[i]? = some x → ys[i]? = some y → RepA P w (okOf c w σ.hp loc) loc v x → RepA P w (okOf c w (σ.hp.dropL l') loc) loc2 v y
  | [], ys, p, l, l', hx, hp, hs => by
    simp only [views1, Option.some.injEq, Prod.mk.injEq] at hx; obtain ⟨_, rfl, _⟩ := hx
    exact ⟨rfl, fun i v x y h1 => by simp at h1⟩
  | x :: r, ys, p, l, l', hx, hp, hs => by
    simp only [views1] at hx
    split at hx
    · rename_i p1 y l1 q ys' l2 e1 e2
      simp only [Option.some.injEq, Prod.mk.injEq] at hx; obtain ⟨rfl, rfl, rfl⟩ := hx
      obtain ⟨i1, i2⟩ := views1_rep h loc2 e2 hp.2 fun i hi => hs i (by simp [hi])
      refine ⟨by simp [i1], fun i v x' y' h1 h2 h3 => ?_⟩
      cases i with
      | zero => simp at h1 h2; subst h1; subst h2; exact view1_rep h e1 hp.1 (fun i hi => hs i (by simp [hi])) h3 loc2
      | succ i => simp at h1 h2; exact i2 i v x' y' h1 h2 h3
    · cases hx

theorem viewB_rep {vs : List Value} {xs : List AV} (h : RepL P c σ ρ w vs xs loc) {x y : AV} {p : Prop} {l l' : List Nat} {v : Value} (hx : viewB σ.hp x = some (p, y, l)) (hp : p) (hs : ∀ i ∈ l, i ∈ l') (hv : RepA P w (okOf c w σ.hp loc) loc v x)
    (loc2 : Nat → Option (Nat × Nat)) : RepA P w (okOf c w (σ.hp.dropL l') loc) loc2 v y := by
  cases x with
  | clo S =>
    simp only [viewB, Option.some.injEq, Prod.mk.injEq] at hx; obtain ⟨_, rfl, _⟩ := hx
    cases hv with | clo hv => exact .clo (hv.mono fun b hb => ⟨hb.dropL _ _, rfl⟩)
  | dp cs =>
    simp only [viewB, Option.map_eq_some_iff] at hx
    obtain ⟨⟨p', ys, l1⟩, hx, he⟩ := hx
    simp only [Prod.mk.injEq] at he; obtain ⟨rfl, rfl, rfl⟩ := he
    obtain ⟨i1, i2⟩ := views1_rep h loc2 hx hp hs
    cases hv with | dp u h1 h2 h3 h4 =>
    have get : ∀ (j : Nat) y, ys[j]? = some y → ∃ x, cs[j]? = some x := fun j y hy => by
      have : j < cs.length := by have := (List.getElem?_eq_some_iff.1 hy).1; omega
      exact ⟨cs[j], List.getElem?_eq_getElem this⟩
    refine .dp u (h1.dropL _ _) h2 (fun j y hy => ?_) (fun j y hy => ?_)
    · obtain ⟨x, hx⟩ := get j y hy; exact h3 j x hx
    · obtain ⟨x, hx⟩ := get j y hy; exact i2 j _ x y hx hy (h4 j x hx)
  | ptr id off =>
    simp only [viewB] at hx
    split at hx
    · rename_i cs hh
      simp only [Option.map_eq_some_iff] at hx
      obtain ⟨⟨p', ys, l1⟩, hx, he⟩ := hx
      simp only [Prod.mk.injEq] at he; obtain ⟨rfl, rfl, rfl⟩ := he
      obtain ⟨i1, i2⟩ := views1_rep h loc2 hx hp fun i hi => hs i (by simp [hi])
      cases hv with | @ptr _ _ b δ hl =>
      cases h.heap id _ hh with | @bx b' cur T _ hl' hb hz hcs =>
      rw [hl] at hl'; simp only [Option.some.injEq, Prod.mk.injEq] at hl'; obtain ⟨rfl, rfl⟩ := hl'
      have hlive : Live σ.hp id := by simp [Live, hh]
      have get : ∀ (j : Nat) y, ys[j]? = some y → ∃ x, (cs.drop off)[j]? = some x ∧ ∃ u, cur[off + j]? = some u ∧ RepA P w (okOf c w σ.hp loc) loc u x := fun j y hy => by
        have hj : j < (cs.drop off).length := by have := (List.getElem?_eq_some_iff.1 hy).1; omega
        have hj2 : off + j < cs.length := by simp at hj; omega
        refine ⟨(cs.drop off)[j], List.getElem?_eq_getElem hj, cur[off + j]'(by omega), Array.getElem?_eq_getElem _, ?_⟩
        exact hcs (off + j) _ _ (Array.getElem?_eq_getElem _) (by rw [List.getElem_drop]; exact List.getElem?_eq_getElem hj2)
      refine .dp (fun j => (cur[off + j]?).getD undef) (okOf.own (h := h) hlive hl (hs id (by simp))) hb (fun j y hy => ?_) (fun j y hy => ?_)
      · obtain ⟨x, hx, u, hu, hr⟩ := get j y hy
        rw [Nat.zero_add, hu]; rfl
      · obtain ⟨x, hx, u, hu, hr⟩ := get j y hy
        rw [hu]
        exact i2 j u x y hx hy hr
    · cases hx
  | _ =>
    simp only [viewB, Option.map_eq_some_iff] at hx
    obtain ⟨⟨p', y', l1⟩, hx, he⟩ := hx
    simp only [Prod.mk.injEq] at he; obtain ⟨rfl, rfl, rfl⟩ := he
    exact .d (toD_rep h hx hp hv hs)

theorem viewBs_rep {vs : List Value} {xs : List AV} (h : RepL P c σ ρ w vs xs loc) (loc2 : Nat → Option (Nat × Nat)) : ∀ {cs ys : List AV} {p : Prop} {l l' : List Nat}, viewBs σ.hp cs = some (p, ys, l) → p → (∀ i ∈ l, i ∈ l') →
    ys.length = cs.length ∧ ∀ (i : Nat) v x y, cs[i]? = some x → ys[i]? = some y → RepA P w (okOf c w σ.hp loc) loc v x → RepA P w (okOf c w (σ.hp.dropL l') loc) loc2 v y
  | [], ys, p, l, l', hx, hp, hs => by
    simp only [viewBs, Option.some.injEq, Prod.mk.injEq] at hx; obtain ⟨_, rfl, _⟩ := hx
    exact ⟨rfl, fun i v x y h1 => by simp at h1⟩
  | x :: r, ys, p, l, l', hx, hp, hs => by
    simp only [viewBs] at hx
    split at hx
    · rename_i p1 y l1 q ys' l2 e1 e2
      simp only [Option.some.injEq, Prod.mk.injEq] at hx; obtain ⟨rfl, rfl, rfl⟩ := hx
      obtain ⟨i1, i2⟩ := viewBs_rep h loc2 e2 hp.2 fun i hi => hs i (by simp [hi])
      refine ⟨by simp [i1], fun i v x' y' h1 h2 h3 => ?_⟩
      cases i with
      | zero => simp at h1 h2; subst h1; subst h2; exact viewB_rep h e1 hp.1 (fun i hi => hs i (by simp [hi])) h3 loc2
      | succ i => simp at h1 h2; exact i2 i v x' y' h1 h2 h3
    · cases hx

theorem viewA_rep {vs : List Value} {xs : List AV} (h : RepL P c σ ρ w vs xs loc) {x y : AV} {p : Prop} {l l' : List Nat} {v : Value} (hx : viewA P σ.hp x = some (p, y, l)) (hp : p) (hs : ∀ i ∈ l, i ∈ l') (hv : RepA P w (okOf c w σ.hp loc) loc v x)
    (loc2 : Nat → Option (Nat × Nat)) : RepA P w (okOf c w (σ.hp.dropL l') loc) loc2 v y := by
  unfold viewA at hx
  split at hx
  · rename_i g first caps
    split at hx
    · rename_i p1 fs l1 p2 cs l2 e1 e2
      simp only [Option.some.injEq, Prod.mk.injEq] at hx; obtain ⟨rfl, rfl, rfl⟩ := hx
      obtain ⟨⟨hcb, hw1, hw2⟩, q1, q2⟩ := hp
      obtain ⟨a1, a2⟩ := viewBs_rep h (fun _ => none) e1 q1 fun i hi => hs i (by simp [hi])
      obtain ⟨b1, b2⟩ := viewBs_rep h (fun _ => none) e2 q2 fun i hi => hs i (by simp [hi])
      cases hv with | @fv _ fst cap _ _ h1 h2 h3 h4 =>
      refine .clo ⟨g, fst, cap, rfl, hcb, fun w' ok' hk hlt ds vals K hlen hvals ⟨R, hcall, hflat, hRK⟩ => ?_⟩
      have geti : ∀ {α β : Type} {u : List α} {r : List β} {i : Nat} {z : α}, u.length = r.length → u[i]? = some z → ∃ t, r[i]? = some t := fun {α β u r i z} e hz => by
        have : i < r.length := by have := (List.getElem?_eq_some_iff.1 hz).1; omega
        exact ⟨r[i], List.getElem?_eq_getElem this⟩
      have f1 : ∀ (i : Nat) v y, fst[i]? = some v → fs[i]? = some y → RepA P w' ok' (fun _ => none) v y := fun i v y hv hy => by
        obtain ⟨x, hx⟩ := geti a1 hy
        exact (a2 i v x y hx hy (h3 i v x hv hx)).mono_vw (by rw [List.all_eq_true] at hw1; exact hw1 y (List.mem_of_getElem? hy)) hk
      have f2 : ∀ (i : Nat) v y, cap[i]? = some v → cs[i]? = some y → RepA P w' ok' (fun _ => none) v y := fun i v y hv hy => by
        obtain ⟨x, hx⟩ := geti b1 hy
        exact (b2 i v x y hx hy (h4 i v x hv hx)).mono_vw (by rw [List.all_eq_true] at hw2; exact hw2 y (List.mem_of_getElem? hy)) hk
      let c' : Ctx := ⟨w', ok', fun _ => False, fun _ => none, rfl, hlt, fun _ _ => id⟩
      have hok : ∀ b, ok' b → okOf c' w' (st []).hp (fun _ => none) b ∧ w'.heap[b]? = w'.heap[b]? := fun b hb => ⟨⟨hlt b hb, .inl hb, fun id δ _ he => by cases he⟩, rfl⟩
      have hargs : RepL P c' (st []) (fun _ => undef) w' (fst.toList ++ vals ++ cap.toList) (fs ++ ds.map .d ++ cs) (fun _ => none) := by
        refine ⟨fun s => .unk _, by simp only [List.length_append, List.length_map, Array.length_toList]; omega, fun i v x hv hx => ?_, fun id b hb => by simp [st, hpOf, lookH] at hb, fun id id' b δ δ' _ _ e1 _ => (by cases e1),
          fun id b δ _ e1 => (by cases e1), ⟨rfl, rfl, rfl, Nat.le_refl _, fun _ _ _ => rfl, Shapes.refl _⟩, fun _ _ => rfl, fun _ _ => rfl, fun id hl => by simp [Live, st, hpOf, lookH] at hl⟩
        rw [List.getElem?_append] at hv hx
        have e1 : (fst.toList ++ vals).length = (fs ++ ds.map AV.d).length := by simp only [List.length_append, List.length_map, Array.length_toList]; omega
        rw [e1] at hv
        split at hv
        · rename_i hi
          rw [if_pos hi] at hx
          rw [List.getElem?_append] at hv hx
          have e2 : fst.toList.length = fs.length := by simp only [Array.length_toList]; omega
          rw [e2] at hv
          split at hv
          · rename_i hi2
            rw [if_pos hi2] at hx
            exact (f1 i v x (by rwa [Array.getElem?_toList] at hv) hx).mono hok (Shapes.refl _)
          · rename_i hi2
            rw [if_neg hi2] at hx
            simp only [List.getElem?_map, Option.map_eq_some_iff] at hx
            obtain ⟨d, hd, rfl⟩ := hx
            exact .d ((hvals _ v d hv hd).mono hok)
        · rename_i hi
          rw [if_neg hi] at hx
          exact (f2 _ v x (by rwa [Array.getElem?_toList] at hv) hx).mono hok (Shapes.refl _)
      have := hcall c' _ hargs
      have he : (fst.toList ++ vals ++ cap.toList).toArray = fst ++ vals.toArray ++ cap := by apply Array.ext'; simp
      rw [he] at this
      refine this.mono fun e w2 ⟨v, x, bs, res, loc', he, ⟨⟨r, hr, hR⟩, hres⟩, _, _, hrep⟩ => ?_
      subst hr
      refine ⟨v, r, he, hflat r hR, ?_, hRK r hR, ⟨hrep.ext.os, hrep.ext.tape, hrep.ext.output, hrep.ext.size, fun b hb => hrep.ext.block b hb (by simp [c'])⟩⟩
      cases hrep.val1 with | d hx => exact hx.of_flat (hflat r hR)
    · cases hx
  · exact viewB_rep h hx hp hs hv loc2

theorem viewL_rep {vs : List Value} {xs : List AV} (h : RepL P c σ ρ w vs xs loc) (loc2 : Nat → Option (Nat × Nat)) : ∀ {cs ys : List AV} {p : Prop} {l l' : List Nat}, viewL P σ.hp cs = some (p, ys, l) → p → (∀ i ∈ l, i ∈ l') →
    ys.length = cs.length ∧ ∀ (i : Nat) v x y, cs[i]? = some x → ys[i]? = some y → RepA P w (okOf c w σ.hp loc) loc v x → RepA P w (okOf c w (σ.hp.dropL l') loc) loc2 v y
  | [], ys, p, l, l', hx, hp, hs => by
    simp only [viewL, Option.some.injEq, Prod.mk.injEq] at hx; obtain ⟨_, rfl, _⟩ := hx
    exact ⟨rfl, fun i v x y h1 => by simp at h1⟩
  | x :: r, ys, p, l, l', hx, hp, hs => by
    simp only [viewL] at hx
    split at hx
    · rename_i p1 y l1 q ys' l2 e1 e2
      simp only [Option.some.injEq, Prod.mk.injEq] at hx; obtain ⟨rfl, rfl, rfl⟩ := hx
      obtain ⟨i1, i2⟩ := viewL_rep h loc2 e2 hp.2 fun i hi => hs i (by simp [hi])
      refine ⟨by simp [i1], fun i v x' y' h1 h2 h3 => ?_⟩
      cases i with
      | zero => simp at h1 h2; subst h1; subst h2; exact viewA_rep h e1 hp.1 (fun i hi => hs i (by simp [hi])) h3 loc2
      | succ i => simp at h1 h2; exact i2 i v x' y' h1 h2 h3
    · cases hx

/-- After a call that was handed no blocks: new blocks get numbers from 'base' on. 'dr': what was looked at is given up. -/
def CallK (σ : AS) (base : Nat) (dr : Bool) (l : List Nat) (K : AV → AS → Prop) (x : AV) (res : List (Nat × Blk)) : Prop :=
  ((res.map Prod.fst).Nodup ∧ (100 ≤ base ∧ base < 1000000000000) ∧ (∀ j, j < res.length → (σ.used (base + j) = false ∧ base + j < 1000000000000)) ∧ (dr = true ∨ l = [] ∨ (x.flatR = true ∧ res.all (fun p => p.2.flatR) = true))) ∧
    K (x.back (fun _ => 0) base [] res) (σ.after (fun _ => 0) base dr l [] [] res)

/-- A call whose arguments are only looked at. -/
theorem CallVC.view {f : FuncId} {as args : List AV} {p : Prop} {l : List Nat} {K : AV → AS → Prop} (hv : viewL P σ.hp as = some (p, args, l)) (hp : p) (base : Nat) (dr : Bool)
    (hc : ACalls P f args [] fun x _ res => CallK σ base dr l K x res) (h100 : (100 ≤ base ∧ base < 1000000000000)) : CallVC P f as σ K := by
  intro c ρ w vals loc hr
  obtain ⟨v1, v2⟩ := viewL_rep hr (fun q => loc ((fun _ => 0) q)) hv hp (l' := l) fun i hi => hi
  refine (hr.call (K := fun x _ res => CallK σ base dr l K x res) l (fun _ => 0) base h100 v1 (fun i a b v ha hb hr' => v2 i v b a hb ha hr') (fun _ _ => rfl) (by simp) (by simp) (by simp) hc).mono fun e w' ⟨v, x, bs, res, he, hk, hbl, hfin⟩ => ?_
  obtain ⟨⟨k1, _, k2, k3⟩, hK⟩ := hk
  have hb0 : bs = [] := List.length_eq_zero_iff.1 hbl
  subst hb0
  obtain ⟨loc', hr'⟩ := hfin ⟨k1, k2⟩ dr (by
    rcases k3 with k3 | k3 | ⟨k3, k4⟩
    · exact .inl k3
    · exact .inr (.inl k3)
    · exact .inr (.inr ⟨k3, rfl, k4⟩))
  exact ⟨v, _, _, loc', he, hK, hr'⟩

theorem back_d (y : D) (g : Nat → Nat) (base : Nat) (keys : List Nat) (res : List (Nat × Blk)) : (AV.d y).back g base keys res = .d y := rfl

theorem after_none (base : Nat) (g : Nat → Nat) (l : List Nat) : σ.after g base false l [] [] [] = σ := by
  have h1 : (fun id => inNew base ([] : List (Nat × Blk)).length id || σ.used id) = σ.used := by
    funext id
    have : inNew base ([] : List (Nat × Blk)).length id = false := by simp [inNew]
    rw [this, Bool.false_or]
  simp only [AS.after, h1]
  cases σ; rfl

/-- A call whose value is known, a datum without slices: the state stays. -/
theorem CallVC.flat {f : FuncId} {as args : List AV} {p : Prop} {l : List Nat} {r : D} {K : AV → AS → Prop} (hv : viewL P σ.hp as = some (p, args, l)) (hp : p)
    (hc : ACalls P f args [] fun x _ res => x = .d r ∧ res = []) (hr : r.flat = true) (hk : K (.d r) σ) : CallVC P f as σ K := by
  refine .view hv hp 100 false (hc.mono fun x _ res ⟨h1, h2⟩ => ?_) (by omega)
  subst h1; subst h2
  refine ⟨⟨by simp, by omega, by simp, .inr (.inr ⟨hr, rfl⟩)⟩, ?_⟩
  rw [back_d, after_none]; exact hk

/-- A call whose value is a datum, and which looks at no block of the frame's own. -/
theorem CallVC.data {f : FuncId} {as args : List AV} {p : Prop} {K : AV → AS → Prop} (hv : viewL P σ.hp as = some (p, args, [])) (hp : p)
    {R : D → Prop} (hc : ACalls P f args [] fun x _ res => (∃ r, x = .d r ∧ R r) ∧ res = []) (hk : ∀ r, R r → K (.d r) σ) : CallVC P f as σ K := by
  refine .view hv hp 100 false (hc.mono fun x _ res ⟨⟨r, h1, h3⟩, h2⟩ => ?_) (by omega)
  subst h1; subst h2
  refine ⟨⟨by simp, by omega, by simp, .inr (.inl rfl)⟩, ?_⟩
  rw [back_d, after_none]; exact hk r h3

/-- A call whose value is one of several data without slices. -/
theorem CallVC.flats {f : FuncId} {as args : List AV} {p : Prop} {l : List Nat} {K : AV → AS → Prop} (hv : viewL P σ.hp as = some (p, args, l)) (hp : p)
    {R : D → Prop} (hc : ACalls P f args [] fun x _ res => (∃ r, x = .d r ∧ r.flat = true ∧ R r) ∧ res = []) (hk : ∀ r, R r → K (.d r) σ) : CallVC P f as σ K := by
  refine .view hv hp 100 false (hc.mono fun x _ res ⟨⟨r, h1, h4, h3⟩, h2⟩ => ?_) (by omega)
  subst h1; subst h2
  refine ⟨⟨by simp, by omega, by simp, .inr (.inr ⟨h4, rfl⟩)⟩, ?_⟩
  rw [back_d, after_none]; exact hk r h3

/-! ### Loops: weaker states -/

/-- A state written out. -/
def mkS (slots : List (Nat × AV)) (heap : List (Nat × Blk)) (used : List Nat) : AS :=
  ⟨fun s => match slots.lookup s with | some x => x | none => .unk, hpOf heap, fun id => decide ((id < 100 ∨ 1000000000000 ≤ id)) || used.contains id⟩

def outU (used : List Nat) (id : Nat) : Bool := !(decide ((id < 100 ∨ 1000000000000 ≤ id)) || used.contains id)

def slotsLe (σ : AS) (used : List Nat) : List (Nat × AV) → Prop
  | [] => True
  | (s, x) :: r => (σ.sl s = x ∧ x.kp (outU used) = x) ∧ slotsLe σ used r
def heapLe (σ : AS) (used : List Nat) : List (Nat × Blk) → Prop
  | [] => True
  | (id, b) :: r => (σ.hp.heap id = some b ∧ b.kp (outU used) = b ∧ ((id < 100 ∨ 1000000000000 ≤ id) ∨ used.contains id = true)) ∧ heapLe σ used r

theorem slotsLe_get {used : List Nat} : ∀ {l : List (Nat × AV)}, slotsLe σ used l → ∀ s x, l.lookup s = some x → σ.sl s = x ∧ x.kp (outU used) = x
  | [], _, s, x, hx => by simp at hx
  | (t, y) :: r, h, s, x, hx => by
    rw [List.lookup_cons] at hx
    split at hx
    · rename_i he
      simp only [Option.some.injEq] at hx; subst hx
      rw [beq_iff_eq] at he; subst he; exact h.1
    · exact slotsLe_get h.2 s x hx
theorem heapLe_get {used : List Nat} : ∀ {l : List (Nat × Blk)}, heapLe σ used l → ∀ id b, lookH l id = some b → σ.hp.heap id = some b ∧ b.kp (outU used) = b ∧ ((id < 100 ∨ 1000000000000 ≤ id) ∨ used.contains id = true)
  | [], _, id, b, hb => by cases hb
  | (k, y) :: r, h, id, b, hb => by
    simp only [lookH] at hb
    split at hb
    · rename_i he; subst he; simp only [Option.some.injEq] at hb; subst hb; exact h.1
    · exact heapLe_get h.2 id b hb

theorem Wk.mk {slots : List (Nat × AV)} {heap : List (Nat × Blk)} {used : List Nat} (hs : slotsLe σ used slots) (hh : heapLe σ used heap) : Wk P σ (mkS slots heap used) := by
  intro c ρ w loc h
  let loc' : Nat → Option (Nat × Nat) := fun id => if outU used id = true then none else loc id
  have hl : ∀ id, outU used id = false → loc' id = loc id := fun id hid => by simp only [loc', hid, Bool.false_eq_true, if_false]
  have hl2 : ∀ id q, loc' id = some q → loc id = some q := fun id q hq => by
    simp only [loc'] at hq
    split at hq
    · cases hq
    · exact hq
  have hlv : ∀ id, Live (hpOf heap) id → Live σ.hp id ∧ outU used id = false := fun id hv => by
    cases hb : lookH heap id with
    | none => simp [Live, hpOf, hb] at hv
    | some b =>
      obtain ⟨g1, _, g3⟩ := heapLe_get hh id b hb
      refine ⟨by simp [Live, g1], ?_⟩
      simp only [outU, Bool.not_eq_false', Bool.or_eq_true, decide_eq_true_eq]; exact g3
  have hk : ∀ b, okOf c w σ.hp loc b → okOf c w (hpOf heap) loc' b ∧ w.heap[b]? = w.heap[b]? := fun b ⟨h1, h2, h3⟩ =>
    ⟨⟨h1, h2, fun id δ hv he => h3 id δ (hlv id hv).1 (hl2 _ _ he)⟩, rfl⟩
  refine ⟨loc', fun s => ?_, rfl, fun i v x hv => by simp at hv, fun id b hb => ?_, fun id id' b δ δ' l1 l2 e1 e2 => h.inj id id' b δ δ' (hlv id l1).1 (hlv id' l2).1 (hl2 _ _ e1) (hl2 _ _ e2),
    fun id b δ l1 e1 => h.own id b δ (hlv id l1).1 (hl2 _ _ e1), h.ext, fun id hid => ?_, fun id hid => ?_, fun id hid => ?_⟩
  · simp only [mkS]
    split
    · rename_i x hx
      obtain ⟨g1, g2⟩ := slotsLe_get hs s x hx
      have := (h.slots s).mono_kp hk (Shapes.refl w) (outU used) hl
      rwa [g1, g2] at this
    · exact .unk _
  · obtain ⟨g1, g2, g3⟩ := heapLe_get hh id b hb
    have ho : outU used id = false := by simp only [outU, Bool.not_eq_false', Bool.or_eq_true, decide_eq_true_eq]; exact g3
    have := (h.heap id b g1).mono_kp hk (Shapes.refl w) (outU used) ho hl fun _ _ _ => rfl
    rwa [g2] at this
  · rw [hl id (by simp [outU, hid])]; exact h.fix id hid
  · have : outU used id = true := by simpa [outU, mkS] using hid
    simp only [loc', this, if_true]
  · have := (hlv id hid).2
    simp only [outU, Bool.not_eq_false'] at this
    exact this

/-- A nil slice in a slot is taken as one of the frame's own. -/
theorem Wk.adopt (s k sz : Nat) (hs : σ.sl s = .nl) (hf : σ.free k) : Wk P σ { (σ.new k (.ar sz [])) with sl := upd σ.sl s (.sl sz k 0 0) } := by
  intro c ρ w loc h
  have h2 := h.adopt k hf sz
  refine ⟨loc, fun t => ?_, h2.len, h2.vals, h2.heap, h2.inj, h2.own, h2.ext, h2.fix, h2.dom, h2.liveU⟩
  simp only [upd]
  by_cases ht : t = s
  · subst ht
    rw [if_pos rfl]
    have := h.slots t
    rw [hs] at this
    generalize ρ t = v at this
    cases this; exact .sl0 none sz k 0
  · rw [if_neg ht]; exact h2.slots t

end
end Go.Fw

/- How the conditions are worked out, step by step; contracts whose result is a datum. -/
namespace Go.Fw
open Go

section
variable {P : Program} {fz : List Nat} {σ : AS} {Q : Ex → AS → Prop} {K : AS → Prop} {ops : Array Oper} {r : List Oper} {n : AS → Prop}

/-- Continuations, named: they are worked out only where a state is at hand. -/
def kVC (P : Program) (fz : List Nat) (c : Code) (Q : Ex → AS → Prop) (σ : AS) : Prop := VC P fz c σ Q
def kOps (P : Program) (fz : List Nat) (ops : Array Oper) (r : List Oper) (K : AS → Prop) (σ : AS) : Prop := vcOps P fz ops r σ K
def kPut (dst : Option Nat) (K : AS → Prop) (x : AV) (σ : AS) : Prop := K (σ.put dst x)
def kD (K : AV → AS → Prop) (σ : AS) (y : D) : Prop := K (.d y) σ
def kSched (P : Program) (fz : List Nat) (ops : Array Oper) (r : Sched) (K : AS → Prop) (σ : AS) : Prop := vcSched P fz ops r σ K
def kChk (P : Program) (fz : List Nat) (ops : Array Oper) (chk : List Nat) (r : Sched) (K : AS → Prop) (σ : AS) : Prop := chkAll P ops σ chk ∧ vcSched P fz ops r σ K
theorem kSched_ap {st : Sched} : kSched P fz ops st K σ = vcSched P fz ops st σ K := rfl
theorem kChk_ap {chk : List Nat} {st : Sched} : kChk P fz ops chk st K σ = (chkAll P ops σ chk ∧ vcSched P fz ops st σ K) := rfl
theorem kVC_ap {c : Code} : kVC P fz c Q σ = VC P fz c σ Q := rfl
theorem kOps_ap : kOps P fz ops r K σ = vcOps P fz ops r σ K := rfl
theorem kPut_ap {dst : Option Nat} {x : AV} : kPut dst K x σ = K (σ.put dst x) := rfl
theorem kD_ap {K : AV → AS → Prop} {y : D} : kD K σ y = K (.d y) σ := rfl

theorem VC_skip : VC P fz .skip σ Q = Q .normal σ := rfl
theorem VC_ret : VC P fz .ret σ Q = Q .ret σ := rfl
theorem VC_exit {i : Nat} : VC P fz (.exit i) σ Q = Q (.exit i) σ := rfl
theorem VC_seq {a b : Code} : VC P fz (.seq a b) σ Q = VC P fz a σ (seqQ (kVC P fz b Q) Q) := rfl
theorem VC_block {a : Code} {i : Nat} : VC P fz (.block i a) σ Q = VC P fz a σ (blockQ i Q) := rfl
theorem VC_cond {c : Operand} {a b : Code} : VC P fz (.cond c a b) σ Q = condVC (σ.opd c) (VC P fz a σ Q) (VC P fz b σ Q) := rfl
theorem VC_region {i : Nat} : VC P fz (.region i ops false) σ Q = vcOps P fz ops ops.toList σ (Q .normal) := rfl
theorem VC_any {i : Nat} : VC P fz (.region i ops true) σ Q = AnyVC P fz ops σ (Q .normal) := rfl
theorem VC_loop {c : Code} : VC P fz (.loop c) σ Q = LoopVC P (VC P fz c) σ Q := rfl
theorem seqQ_n : seqQ n Q .normal σ = n σ := rfl
theorem seqQ_e {i : Nat} : seqQ n Q (.exit i) σ = Q (.exit i) σ := rfl
theorem seqQ_r : seqQ n Q .ret σ = Q .ret σ := rfl
theorem blockQ_n {i : Nat} : blockQ i Q .normal σ = Q .normal σ := rfl
theorem blockQ_e {i j : Nat} : blockQ i Q (.exit j) σ = if j = i then Q .normal σ else Q (.exit j) σ := rfl
theorem blockQ_r {i : Nat} : blockQ i Q .ret σ = Q .ret σ := rfl
theorem loopQ_n {G : Type} {I : G → AS} {μ : G → Nat} {g : G} : loopQ P I μ g Q .normal σ = ∃ g', Wk P σ (I g') ∧ μ g' < μ g := rfl
theorem loopQ_e {G : Type} {I : G → AS} {μ : G → Nat} {g : G} {i : Nat} : loopQ P I μ g Q (.exit i) σ = Q (.exit i) σ := rfl
theorem loopQ_r {G : Type} {I : G → AS} {μ : G → Nat} {g : G} : loopQ P I μ g Q .ret σ = Q .ret σ := rfl
theorem vcOps_nil : vcOps P fz ops [] σ K = K σ := rfl

/-- One operation whose value is 'q', without guard, and with one. -/
def vcSel (P : Program) (fz : List Nat) (σ : AS) (dst : Option Nat) (op : Op) (q : Option PA) (K : AS → Prop) : Prop :=
  match q with
  | some (p, x) => p ∧ K (σ.put dst x)
  | none => vcAct P fz σ dst op K
/-- A guarded operation that is not only a value. -/
def vcSelC (P : Program) (fz : List Nat) (σ : AS) (dst : Option Nat) (op : Op) (g : Bool) (K : AS → Prop) : Prop :=
  ((g = true → vcAct P fz σ dst op K) ∧ (g = false → K (σ.put dst .unk))) ∨ ∃ r, (g = true → vcFun P σ op r) ∧ K (σ.put dst (.op g (.d r)))
def vcSelG (P : Program) (fz : List Nat) (σ : AS) (dst : Option Nat) (op : Op) (g : Option Bool) (q : Option PA) (K : AS → Prop) : Prop :=
  match g with
  | some g => match q with
      | some (p, x) => (g = true → p) ∧ K (σ.put dst (mkOp g x))
      | none => vcSelC P fz σ dst op g K
  | none => False

theorem vcOps_cons {dst : Option Nat} {op : Op} {ty : TypeId} {pos : String} {aft : Array Edge} : vcOps P fz ops (⟨dst, op, ty, pos, aft, none⟩ :: r) σ K = vcSel P fz σ dst op (fval P σ op) (kOps P fz ops r K) := by
  show vcOp P fz ops σ _ (kOps P fz ops r K) = _
  simp only [vcOp, vcSel]
  cases fval P σ op <;> rfl
theorem vcOps_consG {dst : Option Nat} {op : Op} {ty : TypeId} {pos : String} {aft : Array Edge} {j : Nat} {b : Bool} : vcOps P fz ops (⟨dst, op, ty, pos, aft, some (j, b)⟩ :: r) σ K = vcSelG P fz σ dst op (gBool (guardAV σ ops j) b) (fval P σ op) (kOps P fz ops r K) := by
  show vcOp P fz ops σ _ (kOps P fz ops r K) = _
  simp only [vcOp, vcSelG, vcSelC]
  cases gBool (guardAV σ ops j) b with
  | none => rfl
  | some g => cases fval P σ op <;> rfl

theorem vcSel_some {dst : Option Nat} {op : Op} {p : Prop} {x : AV} : vcSel P fz σ dst op (some (p, x)) K = (p ∧ K (σ.put dst x)) := rfl
theorem vcSel_none {dst : Option Nat} {op : Op} : vcSel P fz σ dst op none K = vcAct P fz σ dst op K := rfl
theorem vcSelG_some {dst : Option Nat} {op : Op} {p : Prop} {x : AV} {g : Bool} : vcSelG P fz σ dst op (some g) (some (p, x)) K = ((g = true → p) ∧ K (σ.put dst (mkOp g x))) := rfl
theorem vcSelG_none {dst : Option Nat} {op : Op} {g : Bool} : vcSelG P fz σ dst op (some g) none K = vcSelC P fz σ dst op g K := rfl
theorem condVC_b {p : Bool} {a b : Prop} : condVC (.d (.bool p)) a b = ((p = true → a) ∧ (p = false → b)) := rfl
theorem condVC_t {a b : Prop} : condVC (.d (.bool true)) a b = a := by simp [condVC]
theorem condVC_f {a b : Prop} : condVC (.d (.bool false)) a b = b := by simp [condVC]

def selAlloc (σ : AS) (dst : Option Nat) (q : Option (Bool × Nat × List Value)) (K : AS → Prop) : Prop :=
  match dst, q with
  | some k, some (_, _, z) => σ.free (bId k) ∧ K ((σ.new (bId k) (.bx (z.map ofVal))).put (some k) (.ptr (bId k) 0))
  | _, _ => False
theorem act_alloc {dst : Option Nat} {t : TypeId} : vcAct P fz σ dst (.alloc t) K = selAlloc σ dst (tI P t) K := rfl
theorem selAlloc_some {k : Nat} {b : Bool} {n : Nat} {z : List Value} (hk : k ≠ 0) : selAlloc σ (some k) (some (b, n, z)) K = (σ.free (100 * k) ∧ K ((σ.new (100 * k) (.bx (z.map ofVal))).put (some k) (.ptr (100 * k) 0))) := by
  simp only [selAlloc, bId, if_neg hk]
theorem selAlloc_zero {b : Bool} {n : Nat} {z : List Value} : selAlloc σ (some 0) (some (b, n, z)) K = (σ.free 77777777 ∧ K ((σ.new 77777777 (.bx (z.map ofVal))).put (some 0) (.ptr 77777777 0))) := rfl

def selBox (σ : AS) (k : Nat) (f : Bool) (p : Prop) (q : Option (List AV)) (K : AS → Prop) : Prop :=
  match q with
  | some ys => p ∧ if f = true then K (σ.put (some k) (.dp ys)) else σ.free (100 * k) ∧ K ((σ.new (100 * k) (.bx ys)).put (some k) (.ptr (100 * k) 0))
  | none => False
theorem act_box {k : Nat} {t : TypeId} {x : Operand} : vcAct P fz σ (some k) (.box t x) K = selBox σ k (fz.contains k) (σ.opd x).strip.1 (cellsA (σ.opd x).strip.2) K := by
  simp only [vcAct, selBox]
  cases cellsA (σ.opd x).strip.2 <;> rfl
theorem selBox_t {k : Nat} {p : Prop} {ys : List AV} : selBox σ k true p (some ys) K = (p ∧ K (σ.put (some k) (.dp ys))) := rfl
theorem selBox_f {k : Nat} {p : Prop} {ys : List AV} : selBox σ k false p (some ys) K = (p ∧ σ.free (100 * k) ∧ K ((σ.new (100 * k) (.bx ys)).put (some k) (.ptr (100 * k) 0))) := rfl

theorem act_store {t : TypeId} {a x : Operand} : vcAct P fz σ none (.store t a x) K = ((σ.opd a).strip.1 ∧ (σ.opd x).strip.1 ∧ vcStore P σ t (σ.opd a).strip.2 (σ.opd x).strip.2 K) := by simp only [vcAct, true_and]
def AS.withHp (σ : AS) (h : HP) : AS := { σ with hp := h }
theorem withHp_sl {h : HP} {s : Nat} : (σ.withHp h).sl s = σ.sl s := rfl
theorem withHp_hp {h : HP} : (σ.withHp h).hp = h := rfl
theorem withHp_used {h : HP} : (σ.withHp h).used = σ.used := rfl
theorem new_sl {k : Nat} {b : Blk} {s : Nat} : (σ.new k b).sl s = σ.sl s := rfl
theorem new_hp {k : Nat} {b : Blk} : (σ.new k b).hp = σ.hp.set k b := rfl
theorem new_used {k i : Nat} {b : Blk} : (σ.new k b).used i = if i = k then true else σ.used i := rfl
theorem renew_sl {k : Nat} {b : Blk} {s : Nat} : (σ.renew k b).sl s = (σ.sl s).kill k := rfl
theorem renew_hp {k : Nat} {b : Blk} : (σ.renew k b).hp = (σ.hp.kill k).set k b := rfl
theorem renew_used {k : Nat} {b : Blk} : (σ.renew k b).used = σ.used := rfl
theorem set_heap {h : HP} {k i : Nat} {b : Blk} : (h.set k b).heap i = if i = k then some b else h.heap i := rfl
theorem drop_heap {h : HP} {k i : Nat} : (h.drop k).heap i = if i = k then none else h.heap i := rfl
theorem kill_heap {h : HP} {k i : Nat} : (h.kill k).heap i = if i = k then none else (h.heap i).map (Blk.kill k) := rfl
theorem hpOf_heap {h : List (Nat × Blk)} {i : Nat} : (hpOf h).heap i = lookH h i := rfl
theorem mkS_used {slots : List (Nat × AV)} {heap : List (Nat × Blk)} {used : List Nat} {i : Nat} : (mkS slots heap used).used i = (decide ((i < 100 ∨ 1000000000000 ≤ i)) || used.contains i) := rfl
theorem entry_used {args : List AV} {hs : List (Nat × Blk)} {i : Nat} : (entryS args hs).used i = (decide ((i < 100 ∨ 1000000000000 ≤ i)) || (lookH hs i).isSome) := rfl
def selStB (σ : AS) (id off : Nat) (h : Option Blk) (q : Option (Bool × Nat × List Value)) (c : Option (List AV)) (K : AS → Prop) : Prop :=
  match h, q, c with
  | some (.bx cs), some (_, n, _), some ys => (ys.length = n ∧ ys.all AV.cell1 = true ∧ off + n ≤ cs.length) ∧ K { σ with hp := σ.hp.set id (.bx (setCells off ys cs)) }
  | _, _, _ => False
theorem store_ptr {t : TypeId} {id off : Nat} {x : AV} : vcStore P σ t (.ptr id off) x K = selStB σ id off (σ.hp.heap id) (tI P t) (cellsA x) K := rfl
theorem selStB_some {id off n : Nat} {cs ys : List AV} {b : Bool} {z : List Value} : selStB σ id off (some (.bx cs)) (some (b, n, z)) (some ys) K =
    ((ys.length = n ∧ ys.all AV.cell1 = true ∧ off + n ≤ cs.length) ∧ K (σ.withHp (σ.hp.set id (.bx (setCells off ys cs))))) := rfl
def selStE (σ : AS) (x : AV) (sz id i off : Nat) (h : Option Blk) (q : Option (Bool × Nat × List Value)) (c : Option (Prop × D × List Nat)) (K : AS → Prop) : Prop :=
  match h, q, c with
  | some (.ar sz' zs), some (_, n, _), some (p, dx, l) =>
      (p ∧ id ∉ l ∧ sz = sz' ∧ i < zs.length ∧ 0 < n ∧ dx.fits n ∧ off + n ≤ sz) ∧ K { σ with hp := (σ.hp.dropL l).set id (.ar sz' (zs.set i (newElem (zs.getD i D.dflt) off n sz dx))) }
  | some (.bx cs), some (_, n, _), _ => match cellsA x with
      | some ys => (ys.length = n ∧ ys.all AV.cell1 = true ∧ i * sz + off + n ≤ cs.length) ∧ K { σ with hp := σ.hp.set id (.bx (setCells (i * sz + off) ys cs)) }
      | none => False
  | _, _, _ => False
theorem store_ep {t : TypeId} {sz id i off : Nat} {x : AV} : vcStore P σ t (.ep sz id i off) x K = selStE σ x sz id i off (σ.hp.heap id) (tI P t) (toD σ.hp x) K := rfl
theorem selStE_some {x : AV} {sz id i off n sz' : Nat} {zs : List D} {b : Bool} {z : List Value} {p : Prop} {dx : D} {l : List Nat} : selStE σ x sz id i off (some (.ar sz' zs)) (some (b, n, z)) (some (p, dx, l)) K =
    ((p ∧ id ∉ l ∧ sz = sz' ∧ i < zs.length ∧ 0 < n ∧ dx.fits n ∧ off + n ≤ sz) ∧ K (σ.withHp ((σ.hp.dropL l).set id (.ar sz' (zs.set i (newElem (zs.getD i D.dflt) off n sz dx)))))) := rfl

def selStX (σ : AS) (sz id i off n : Nat) (cs : List AV) (q : Option (List AV)) (K : AS → Prop) : Prop :=
  match q with
  | some ys => (ys.length = n ∧ ys.all AV.cell1 = true ∧ i * sz + off + n ≤ cs.length) ∧ K { σ with hp := σ.hp.set id (.bx (setCells (i * sz + off) ys cs)) }
  | none => False
theorem selStE_bx {x : AV} {sz id i off n : Nat} {cs : List AV} {b : Bool} {z : List Value} {c : Option (Prop × D × List Nat)} : selStE σ x sz id i off (some (.bx cs)) (some (b, n, z)) c K = selStX σ sz id i off n cs (cellsA x) K := rfl
theorem selStX_some {sz id i off n : Nat} {cs ys : List AV} : selStX σ sz id i off n cs (some ys) K = ((ys.length = n ∧ ys.all AV.cell1 = true ∧ i * sz + off + n ≤ cs.length) ∧ K (σ.withHp (σ.hp.set id (.bx (setCells (i * sz + off) ys cs))))) := rfl
theorem act_makeMap {k : Nat} {t : TypeId} : vcAct P fz σ (some k) (.makeMap t none) K = (σ.free (100 * k) ∧ K ((σ.new (100 * k) (.mb [])).put (some k) (.mp (100 * k)))) := rfl
def selMp (σ : AS) (kk : KK) (id : Nat) (kd xd : D) (h : Option Blk) (K : AS → Prop) : Prop :=
  match h with
  | some (.mb es) => (keyOk kk kd ∧ (∀ e ∈ es, keyOk kk e.1) ∧ mhas es kd = false) ∧ K (σ.withHp (σ.hp.set id (.mb (es ++ [(kd, xd)]))))
  | _ => False
theorem act_insert {t : TypeId} {m k x : Operand} : vcAct P fz σ none (.insert t m k x) K = (((σ.opd m).strip.1 ∧ (σ.opd k).strip.1 ∧ (σ.opd x).strip.1) ∧ vcMapPut σ (tMapI P t) (σ.opd m).strip.2 (σ.opd k).strip.2 (σ.opd x).strip.2 K) := by simp only [vcAct, true_and]
theorem act_mapUpdate {t : TypeId} {m k x : Operand} : vcAct P fz σ none (.mapUpdate t m k x) K = (((σ.opd m).strip.1 ∧ (σ.opd k).strip.1 ∧ (σ.opd x).strip.1) ∧ vcMapPut σ (tMapI P t) (σ.opd m).strip.2 (σ.opd k).strip.2 (σ.opd x).strip.2 K) := by simp only [vcAct, true_and]
theorem mapPut_is {kk : KK} {ik : IntKind} {id : Nat} {kd xd : D} : vcMapPut σ (some (kk, ik)) (.mp id) (.d kd) (.d xd) K = selMp σ kk id kd xd (σ.hp.heap id) K := rfl
theorem selMp_some {kk : KK} {id : Nat} {kd xd : D} {es : List (D × D)} : selMp σ kk id kd xd (some (.mb es)) K = ((keyOk kk kd ∧ (∀ e ∈ es, keyOk kk e.1) ∧ mhas es kd = false) ∧ K (σ.withHp (σ.hp.set id (.mb (es ++ [(kd, xd)]))))) := rfl
def selMg (σ : AS) (dst : Option Nat) (kk : KK) (ik : IntKind) (kd : D) (cok : Bool) (h : Option Blk) (K : AS → Prop) : Prop :=
  match h with
  | some (.mb es) => (keyOk kk kd ∧ ∀ e ∈ es, keyOk kk e.1) ∧ K (σ.put dst (if cok then .tp [.d (mget ik es kd), .d (.bool (mhas es kd))] else .d (mget ik es kd)))
  | _ => False
theorem act_lookup {dst : Option Nat} {t : TypeId} {m k : Operand} {cok : Bool} : vcAct P fz σ dst (.lookup t m k cok) K = (((σ.opd m).strip.1 ∧ (σ.opd k).strip.1) ∧ vcMapGet σ dst (tMapI P t) (σ.opd m).strip.2 (σ.opd k).strip.2 cok K) := rfl
theorem mapGet_is {dst : Option Nat} {kk : KK} {ik : IntKind} {id : Nat} {kd : D} {cok : Bool} : vcMapGet σ dst (some (kk, ik)) (.mp id) (.d kd) cok K = selMg σ dst kk ik kd cok (σ.hp.heap id) K := rfl
theorem selMg_some {dst : Option Nat} {kk : KK} {ik : IntKind} {kd : D} {cok : Bool} {es : List (D × D)} : selMg σ dst kk ik kd cok (some (.mb es)) K = ((keyOk kk kd ∧ ∀ e ∈ es, keyOk kk e.1) ∧ K (σ.put dst (if cok then .tp [.d (mget ik es kd), .d (.bool (mhas es kd))] else .d (mget ik es kd)))) := rfl

def selMk (σ : AS) (dst : Option Nat) (e : Option (Nat × Nat × TypeId)) (x y : AV) (p q : Prop) (T : TypeId → Option (Bool × Nat × List Value)) (K : AS → Prop) : Prop :=
  match dst, e, x, y with
    | some k, some (es, by', e), .d (.int _ m), .d (.int _ n) => match T e with
      | some (ag, _, z) => match zeroD ag z with
        | some zd => (σ.free (100 * k) ∧ p ∧ q ∧ 0 ≤ m ∧ m ≤ n ∧ (by' : Int) * n ≤ 281474976710656 ∧ n ≤ 9223372036854775807 ∧ zd.fits es ∧ 0 < es) ∧
            K ((σ.new (100 * k) (.ar es (List.replicate m.toNat zd))).put (some k) (.sl es (100 * k) 0 m.toNat))
        | none => False
      | none => False
    | _, _, _, _ => False
theorem act_make {dst : Option Nat} {t : TypeId} {l cp : Operand} : vcAct P fz σ dst (.makeSlice t l cp) K = if fz.contains (1000 + dst.getD 0) = true then vcMakeL σ dst (tElem P t) (σ.opd l).strip.2 (σ.opd cp).strip.2 (σ.opd l).strip.1 (σ.opd cp).strip.1 (tI P) K else selMk σ dst (tElem P t) (σ.opd l).strip.2 (σ.opd cp).strip.2 (σ.opd l).strip.1 (σ.opd cp).strip.1 (tI P) K := rfl
def selMl (σ : AS) (k es by' : Nat) (m n : Int) (p q : Prop) (T : Option (Bool × Nat × List Value)) (K : AS → Prop) : Prop :=
  match T with
  | some (_, _, z) => (σ.free (100 * k) ∧ p ∧ q ∧ 0 ≤ m ∧ m = n ∧ (by' : Int) * n ≤ 281474976710656 ∧ n ≤ 9223372036854775807 ∧ z = [.slice none 0 0] ∧ es = 1) ∧ K ((σ.new (100 * k) (.bx (List.replicate m.toNat .nl))).put (some k) (.sl 1 (100 * k) 0 m.toNat))
  | none => False
theorem makeL_some {k es by' : Nat} {e : TypeId} {k1 k2 : IntKind} {m n : Int} {p q : Prop} {T : TypeId → Option (Bool × Nat × List Value)} : vcMakeL σ (some k) (some (es, by', e)) (.d (.int k1 m)) (.d (.int k2 n)) p q T K = selMl σ k es by' m n p q (T e) K := rfl
theorem selMl_some {k es by' : Nat} {m n : Int} {p q : Prop} {ag : Bool} {a : Nat} {z : List Value} : selMl σ k es by' m n p q (some (ag, a, z)) K = ((σ.free (100 * k) ∧ p ∧ q ∧ 0 ≤ m ∧ m = n ∧ (by' : Int) * n ≤ 281474976710656 ∧ n ≤ 9223372036854775807 ∧ z = [.slice none 0 0] ∧ es = 1) ∧ K ((σ.new (100 * k) (.bx (List.replicate m.toNat .nl))).put (some k) (.sl 1 (100 * k) 0 m.toNat))) := rfl
def selMkZ (σ : AS) (k es by' : Nat) (m n : Int) (p q : Prop) (zd : Option D) (K : AS → Prop) : Prop :=
  match zd with
  | some zd => (σ.free (100 * k) ∧ p ∧ q ∧ 0 ≤ m ∧ m ≤ n ∧ (by' : Int) * n ≤ 281474976710656 ∧ n ≤ 9223372036854775807 ∧ zd.fits es ∧ 0 < es) ∧
            K ((σ.new (100 * k) (.ar es (List.replicate m.toNat zd))).put (some k) (.sl es (100 * k) 0 m.toNat))
  | none => False
def zeroT (q : Option (Bool × Nat × List Value)) : Option D := match q with | some (ag, _, z) => zeroD ag z | none => none
theorem selMk_some {k es by' : Nat} {e : TypeId} {k1 k2 : IntKind} {m n : Int} {p q : Prop} {T : TypeId → Option (Bool × Nat × List Value)} : selMk σ (some k) (some (es, by', e)) (.d (.int k1 m)) (.d (.int k2 n)) p q T K =
    selMkZ σ k es by' m n p q (zeroT (T e)) K := by
  simp only [selMk, selMkZ, zeroT]
  cases T e with
  | none => rfl
  | some q => cases zeroD q.1 q.2.2 <;> rfl
theorem selMkZ_some {k es by' : Nat} {m n : Int} {p q : Prop} {zd : D} : selMkZ σ k es by' m n p q (some zd) K = ((σ.free (100 * k) ∧ p ∧ q ∧ 0 ≤ m ∧ m ≤ n ∧ (by' : Int) * n ≤ 281474976710656 ∧ n ≤ 9223372036854775807 ∧ zd.fits es ∧ 0 < es) ∧
            K ((σ.new (100 * k) (.ar es (List.replicate m.toNat zd))).put (some k) (.sl es (100 * k) 0 m.toNat))) := rfl

def selBs (σ : AS) (dst : Option Nat) (len n : Nat) (is : List Nat) (st : Prop) (e : Option (Nat × Nat × TypeId)) (T : TypeId → Option (Bool × Nat × List Value)) (q : Option (Prop × List D × List Nat)) (K : AS → Prop) : Prop :=
  match dst, e with
    | some k, some (es, _, e) => match T e, q with
      | some _, some (p, ys, l) => (σ.free (100 * k) ∧ st ∧ is = List.range len ∧ n = len ∧ p ∧ (∀ y ∈ ys, y.fits es) ∧ 0 < es ∧ len * es ≤ 16777216) ∧
          K ((AS.new (σ.withHp (σ.hp.dropL l)) (100 * k) (.ar es ys)).put (some k) (.sl es (100 * k) 0 len))
      | _, _ => False
    | _, _ => False
theorem act_bslice {dst : Option Nat} {t : TypeId} {len : Nat} {parts : Array (Nat × Operand)} : vcAct P fz σ dst (.buildSlice t len parts) K =
    if fz.contains (1000 + dst.getD 0) = true then vcBuildL σ dst len parts.size (parts.toList.map Prod.fst) (stripsP (parts.toList.map fun p => σ.opd p.2)) (tElem P t) (tI P) (strips (parts.toList.map fun p => σ.opd p.2)) K else
    selBs σ dst len parts.size (parts.toList.map Prod.fst) (stripsP (parts.toList.map fun p => σ.opd p.2)) (tElem P t) (tI P) (toDA σ.hp (strips (parts.toList.map fun p => σ.opd p.2))) K := rfl
def selBlT (σ : AS) (k len n es : Nat) (is : List Nat) (st : Prop) (T : Option (Bool × Nat × List Value)) (as : List AV) (K : AS → Prop) : Prop :=
  match T with
  | some _ => (σ.free (100 * k) ∧ st ∧ is = List.range len ∧ n = len ∧ es = 1 ∧ as.all AV.cell1 = true ∧ len ≤ 16777216) ∧ K ((σ.new (100 * k) (.bx as)).put (some k) (.sl 1 (100 * k) 0 len))
  | none => False
theorem selBl_some {k len n es b : Nat} {is : List Nat} {st : Prop} {e : TypeId} {T : TypeId → Option (Bool × Nat × List Value)} {as : List AV} : vcBuildL σ (some k) len n is st (some (es, b, e)) T as K = selBlT σ k len n es is st (T e) as K := rfl
theorem selBlT_some {k len n es : Nat} {is : List Nat} {st : Prop} {z : Bool × Nat × List Value} {as : List AV} : selBlT σ k len n es is st (some z) as K =
    ((σ.free (100 * k) ∧ st ∧ is = List.range len ∧ n = len ∧ es = 1 ∧ as.all AV.cell1 = true ∧ len ≤ 16777216) ∧ K ((σ.new (100 * k) (.bx as)).put (some k) (.sl 1 (100 * k) 0 len))) := rfl
def selBsT (σ : AS) (k len n es : Nat) (is : List Nat) (st : Prop) (T : Option (Bool × Nat × List Value)) (q : Option (Prop × List D × List Nat)) (K : AS → Prop) : Prop :=
  match T, q with
      | some _, some (p, ys, l) => (σ.free (100 * k) ∧ st ∧ is = List.range len ∧ n = len ∧ p ∧ (∀ y ∈ ys, y.fits es) ∧ 0 < es ∧ len * es ≤ 16777216) ∧
          K ((AS.new (σ.withHp (σ.hp.dropL l)) (100 * k) (.ar es ys)).put (some k) (.sl es (100 * k) 0 len))
      | _, _ => False
theorem selBs_some {k len n es b : Nat} {is : List Nat} {st : Prop} {e : TypeId} {T : TypeId → Option (Bool × Nat × List Value)} {q : Option (Prop × List D × List Nat)} : selBs σ (some k) len n is st (some (es, b, e)) T q K = selBsT σ k len n es is st (T e) q K := rfl
theorem selBsT_some {k len n es : Nat} {is : List Nat} {st : Prop} {z : Bool × Nat × List Value} {p : Prop} {ys : List D} {l : List Nat} : selBsT σ k len n es is st (some z) (some (p, ys, l)) K =
    ((σ.free (100 * k) ∧ st ∧ is = List.range len ∧ n = len ∧ p ∧ (∀ y ∈ ys, y.fits es) ∧ 0 < es ∧ len * es ≤ 16777216) ∧
          K ((AS.new (σ.withHp (σ.hp.dropL l)) (100 * k) (.ar es ys)).put (some k) (.sl es (100 * k) 0 len))) := rfl

def selAp (σ : AS) (dst : Option Nat) (s x : AV) (q : Option (Prop × List D)) (e e2 : Option (Nat × Nat × TypeId)) (T : TypeId → Option (Bool × Nat × List Value)) (K : AS → Prop) : Prop :=
  match q, e, e2 with
  | some (p, ys), some (es, by', e), some _ => match T e with
    | some (_, _, z) => match s with
      | .nl => match dst with
        | some k => (σ.free (100 * k) ∧ p ∧ z.length = es ∧ 0 < es ∧ (∀ y ∈ ys, y.fits es) ∧ ys.length ≤ 9223372036854775807 ∧ ys.length * by' ≤ 140737488355328) ∧ K ((σ.new (100 * k) (.ar es ys)).put dst (.sl es (100 * k) 0 ys.length))
        | none => False
      | .sl sz id off len => match σ.hp.heap id with
        | some (.ar sz' zs) => ((100 ≤ id ∧ id < 1000000000000) ∧ p ∧ sz = es ∧ sz' = es ∧ off + len = zs.length ∧ z.length = es ∧ 0 < es ∧ (∀ y ∈ ys, y.fits es) ∧ len + ys.length ≤ 9223372036854775807 ∧ (len + ys.length) * by' ≤ 140737488355328) ∧
            K ((σ.renew id (.ar es (zs.drop off ++ ys))).put dst (.sl es id 0 (len + ys.length)))
        | _ => False
      | _ => False
    | none => False
  | none, e, e2 => vcAppL σ dst s x e e2 T K
  | _, _, _ => False
theorem append_is {dst : Option Nat} {t t2 : TypeId} {s x : AV} : vcAppend P σ dst t t2 s x K = selAp σ dst s x (srcOf σ.hp x) (tElem P t) (tElem P t2) (tI P) K := rfl
def selApN (σ : AS) (k es by' : Nat) (p : Prop) (ys : List D) (T : Option (Bool × Nat × List Value)) (K : AS → Prop) : Prop :=
  match T with
  | some (_, _, z) => (σ.free (100 * k) ∧ p ∧ z.length = es ∧ 0 < es ∧ (∀ y ∈ ys, y.fits es) ∧ ys.length ≤ 9223372036854775807 ∧ ys.length * by' ≤ 140737488355328) ∧ K ((σ.new (100 * k) (.ar es ys)).put (some k) (.sl es (100 * k) 0 ys.length))
  | none => False
theorem selAp_nl {x : AV} {k es by' : Nat} {p : Prop} {ys : List D} {e : TypeId} {e2 : Nat × Nat × TypeId} {T : TypeId → Option (Bool × Nat × List Value)} : selAp σ (some k) .nl x (some (p, ys)) (some (es, by', e)) (some e2) T K = selApN σ k es by' p ys (T e) K := rfl
theorem selApN_some {k es by' n : Nat} {b : Bool} {p : Prop} {ys : List D} {z : List Value} : selApN σ k es by' p ys (some (b, n, z)) K =
    ((σ.free (100 * k) ∧ p ∧ z.length = es ∧ 0 < es ∧ (∀ y ∈ ys, y.fits es) ∧ ys.length ≤ 9223372036854775807 ∧ ys.length * by' ≤ 140737488355328) ∧ K ((σ.new (100 * k) (.ar es ys)).put (some k) (.sl es (100 * k) 0 ys.length))) := rfl
def selApS (σ : AS) (dst : Option Nat) (sz id off len es by' : Nat) (p : Prop) (ys : List D) (T : Option (Bool × Nat × List Value)) (h : Option Blk) (K : AS → Prop) : Prop :=
  match T with
  | some (_, _, z) => match h with
     | some (.ar sz' zs) => ((100 ≤ id ∧ id < 1000000000000) ∧ p ∧ sz = es ∧ sz' = es ∧ off + len = zs.length ∧ z.length = es ∧ 0 < es ∧ (∀ y ∈ ys, y.fits es) ∧ len + ys.length ≤ 9223372036854775807 ∧ (len + ys.length) * by' ≤ 140737488355328) ∧
            K ((σ.renew id (.ar es (zs.drop off ++ ys))).put dst (.sl es id 0 (len + ys.length)))
     | _ => False
  | none => False
theorem selAp_sl {x : AV} {dst : Option Nat} {sz id off len es by' : Nat} {p : Prop} {ys : List D} {e : TypeId} {e2 : Nat × Nat × TypeId} {T : TypeId → Option (Bool × Nat × List Value)} : selAp σ dst (.sl sz id off len) x (some (p, ys)) (some (es, by', e)) (some e2) T K = selApS σ dst sz id off len es by' p ys (T e) (σ.hp.heap id) K := by
  simp only [selAp, selApS]
theorem selApS_some {dst : Option Nat} {sz id off len es by' n sz' : Nat} {b : Bool} {p : Prop} {ys zs : List D} {z : List Value} : selApS σ dst sz id off len es by' p ys (some (b, n, z)) (some (.ar sz' zs)) K =
    (((100 ≤ id ∧ id < 1000000000000) ∧ p ∧ sz = es ∧ sz' = es ∧ off + len = zs.length ∧ z.length = es ∧ 0 < es ∧ (∀ y ∈ ys, y.fits es) ∧ len + ys.length ≤ 9223372036854775807 ∧ (len + ys.length) * by' ≤ 140737488355328) ∧
            K ((σ.renew id (.ar es (zs.drop off ++ ys))).put dst (.sl es id 0 (len + ys.length)))) := rfl

theorem selAp_none {dst : Option Nat} {s x : AV} {e e2 : Option (Nat × Nat × TypeId)} {T : TypeId → Option (Bool × Nat × List Value)} : selAp σ dst s x none e e2 T K = vcAppL σ dst s x e e2 T K := rfl
def selAl (σ : AS) (dst : Option Nat) (s : AV) (sz2 off2 m es by' : Nat) (h : Option Blk) (T : Option (Bool × Nat × List Value)) (K : AS → Prop) : Prop :=
  match h, T with
  | some (.bx ds), some (_, _, z) => (sz2 = 1 ∧ off2 = 0 ∧ es = 1 ∧ z.length = 1 ∧ m ≤ ds.length ∧ 0 < m) ∧ match s with
      | .nl => match dst with
        | some k => (σ.free (100 * k) ∧ m ≤ 9223372036854775807 ∧ m * by' ≤ 140737488355328) ∧ ∀ r, K ((σ.new (100 * k) (.bx (ds.take m ++ List.replicate r .unk))).put dst (.sl 1 (100 * k) 0 m))
        | none => False
      | .sl sz k off len => match σ.hp.heap k with
        | some (.bx cs) => ((100 ≤ k ∧ k < 1000000000000) ∧ sz = 1 ∧ off = 0 ∧ len ≤ cs.length ∧ (∀ y ∈ ds.take m, y.cell1 = true) ∧ len + m ≤ 9223372036854775807 ∧ (len + m) * by' ≤ 140737488355328) ∧
            ∀ r, K ((σ.renew k (.bx ((cs.take len ++ ds.take m).map (AV.kill k) ++ List.replicate r .unk))).put dst (.sl 1 k 0 (len + m)))
        | _ => False
      | _ => False
  | _, _ => False
theorem appL_sl {dst : Option Nat} {s : AV} {sz2 id off2 m es by' : Nat} {e : TypeId} {e2 : Nat × Nat × TypeId} {T : TypeId → Option (Bool × Nat × List Value)} : vcAppL σ dst s (.sl sz2 id off2 m) (some (es, by', e)) (some e2) T K = selAl σ dst s sz2 off2 m es by' (σ.hp.heap id) (T e) K := rfl
theorem selAl_nl {k sz2 off2 m es by' n : Nat} {b : Bool} {z : List Value} {ds : List AV} : selAl σ (some k) .nl sz2 off2 m es by' (some (.bx ds)) (some (b, n, z)) K =
    ((sz2 = 1 ∧ off2 = 0 ∧ es = 1 ∧ z.length = 1 ∧ m ≤ ds.length ∧ 0 < m) ∧ (σ.free (100 * k) ∧ m ≤ 9223372036854775807 ∧ m * by' ≤ 140737488355328) ∧ ∀ r, K ((σ.new (100 * k) (.bx (ds.take m ++ List.replicate r .unk))).put (some k) (.sl 1 (100 * k) 0 m))) := rfl
def selAlH (σ : AS) (dst : Option Nat) (sz k off len m by' : Nat) (ds : List AV) (h : Option Blk) (K : AS → Prop) : Prop :=
  match h with
  | some (.bx cs) => ((100 ≤ k ∧ k < 1000000000000) ∧ sz = 1 ∧ off = 0 ∧ len ≤ cs.length ∧ (∀ y ∈ ds.take m, y.cell1 = true) ∧ len + m ≤ 9223372036854775807 ∧ (len + m) * by' ≤ 140737488355328) ∧
      ∀ r, K ((σ.renew k (.bx ((cs.take len ++ ds.take m).map (AV.kill k) ++ List.replicate r .unk))).put dst (.sl 1 k 0 (len + m)))
  | _ => False
theorem selAl_sl {dst : Option Nat} {sz k off len sz2 off2 m es by' n : Nat} {b : Bool} {z : List Value} {ds : List AV} : selAl σ dst (.sl sz k off len) sz2 off2 m es by' (some (.bx ds)) (some (b, n, z)) K =
    ((sz2 = 1 ∧ off2 = 0 ∧ es = 1 ∧ z.length = 1 ∧ m ≤ ds.length ∧ 0 < m) ∧ selAlH σ dst sz k off len m by' ds (σ.hp.heap k) K) := rfl
theorem selAlH_some {dst : Option Nat} {sz k off len m by' : Nat} {ds cs : List AV} : selAlH σ dst sz k off len m by' ds (some (.bx cs)) K =
    (((100 ≤ k ∧ k < 1000000000000) ∧ sz = 1 ∧ off = 0 ∧ len ≤ cs.length ∧ (∀ y ∈ ds.take m, y.cell1 = true) ∧ len + m ≤ 9223372036854775807 ∧ (len + m) * by' ≤ 140737488355328) ∧
      ∀ r, K ((σ.renew k (.bx ((cs.take len ++ ds.take m).map (AV.kill k) ++ List.replicate r .unk))).put dst (.sl 1 k 0 (len + m)))) := rfl

theorem act_call {dst : Option Nat} {cl : Call} : vcAct P fz σ dst (.call cl) K = vcCallOp P σ dst cl.callee cl.args.toList cl.argTypes.toList K := rfl
theorem callOp_append {dst : Option Nat} {s x : Operand} {t t2 : TypeId} : vcCallOp P σ dst (.builtin .append) [s, x] [t, t2] K = ((σ.opd s).strip.1 ∧ (σ.opd x).strip.1 ∧ vcAppend P σ dst t t2 (σ.opd s).strip.2 (σ.opd x).strip.2 K) := rfl
def selCp (σ : AS) (dst : Option Nat) (s : AV) (q : Option (Prop × List D)) (e : Option (Nat × Nat × TypeId)) (K : AS → Prop) : Prop :=
  match q, e, s with
  | some (p, ys), some (es, _, _), .sl sz id off dl => match σ.hp.heap id with
    | some (.ar sz' zs) => (p ∧ es = 1 ∧ sz = 1 ∧ sz' = 1 ∧ off + dl ≤ zs.length ∧ (∀ y ∈ ys, y.isAgg = false) ∧ 0 < min ys.length dl) ∧
        K ((σ.withHp (σ.hp.set id (.ar 1 (zs.take off ++ ys.take (min ys.length dl) ++ zs.drop (off + min ys.length dl))))).put dst (.d (.int .i64 ((min ys.length dl : Nat) : Int))))
    | _ => False
  | _, _, _ => False
theorem callOp_copy {dst : Option Nat} {s x : Operand} {t t2 : TypeId} : vcCallOp P σ dst (.builtin .copy) [s, x] [t, t2] K = ((σ.opd s).strip.1 ∧ (σ.opd x).strip.1 ∧ selCp σ dst (σ.opd s).strip.2 (srcOf σ.hp (σ.opd x).strip.2) (tElem P t) K) := rfl
def selCpH (σ : AS) (dst : Option Nat) (es sz id off dl : Nat) (p : Prop) (ys : List D) (h : Option Blk) (K : AS → Prop) : Prop :=
  match h with
    | some (.ar sz' zs) => (p ∧ es = 1 ∧ sz = 1 ∧ sz' = 1 ∧ off + dl ≤ zs.length ∧ (∀ y ∈ ys, y.isAgg = false) ∧ 0 < min ys.length dl) ∧
        K ((σ.withHp (σ.hp.set id (.ar 1 (zs.take off ++ ys.take (min ys.length dl) ++ zs.drop (off + min ys.length dl))))).put dst (.d (.int .i64 ((min ys.length dl : Nat) : Int))))
    | _ => False
theorem selCp_some {dst : Option Nat} {sz id off dl es b : Nat} {e : TypeId} {p : Prop} {ys : List D} : selCp σ dst (.sl sz id off dl) (some (p, ys)) (some (es, b, e)) K = selCpH σ dst es sz id off dl p ys (σ.hp.heap id) K := rfl
theorem selCpH_some {dst : Option Nat} {sz id off dl es sz' : Nat} {p : Prop} {ys zs : List D} : selCpH σ dst es sz id off dl p ys (some (.ar sz' zs)) K = ((p ∧ es = 1 ∧ sz = 1 ∧ sz' = 1 ∧ off + dl ≤ zs.length ∧ (∀ y ∈ ys, y.isAgg = false) ∧ 0 < min ys.length dl) ∧
        K ((σ.withHp (σ.hp.set id (.ar 1 (zs.take off ++ ys.take (min ys.length dl) ++ zs.drop (off + min ys.length dl))))).put dst (.d (.int .i64 ((min ys.length dl : Nat) : Int))))) := rfl
theorem callOp_value {dst : Option Nat} {f : Operand} {args : List Operand} {ats : List TypeId} : vcCallOp P σ dst (.value f) args ats K = ((σ.opd f).strip.1 ∧ stripsP (args.map σ.opd) ∧ vcCall P σ (σ.opd f).strip.2 (strips (args.map σ.opd)) (kPut dst K)) := by
  unfold vcCallOp; rfl
theorem call_fv {g : FuncId} {first xs caps : List AV} {K : AV → AS → Prop} : vcCall P σ (.fv (.func g) first caps) xs K = (callable P g = true ∧ CallVC P g (first ++ xs ++ caps) σ K) := rfl
/-- A call of a function value that is only known by what it answers. -/
def CloVC (S : List D → (D → Prop) → Prop) (q : Option (Prop × List D × List Nat)) (K : D → Prop) : Prop :=
  match q with
  | some (p, ds, _) => p ∧ S ds K
  | none => False
theorem call_clo {S : List D → (D → Prop) → Prop} {xs : List AV} {K : AV → AS → Prop} : vcCall P σ (.clo S) xs K = CloVC S (toDA σ.hp xs) (kD K σ) := rfl

/-- The steps of a schedule. -/
def selPur (σ : AS) (dst : Option Nat) (q : Option PA) (K : AS → Prop) : Prop :=
  match q with
  | some (p, x) => p ∧ K (σ.put dst x)
  | none => False
theorem selPur_some {dst : Option Nat} {p : Prop} {x : AV} : selPur σ dst (some (p, x)) K = (p ∧ K (σ.put dst x)) := rfl
def selO (P : Program) (ops : Array Oper) (o : Option Oper) (σ : AS) (K : AS → Prop) : Prop :=
  match o with
  | some o => selPur σ o.dst (pureV P σ ops o) K
  | none => False
theorem selO_some {o : Oper} : selO P ops (some o) σ K = selPur σ o.dst (pureV P σ ops o) K := rfl
def selI (P : Program) (fz : List Nat) (ops : Array Oper) (o : Option Oper) (σ : AS) (K : AS → Prop) : Prop :=
  match o with
  | some o => vcOp P fz ops σ o K
  | none => K σ
theorem sched_nil : vcSched P fz ops .nil σ K = K σ := rfl
theorem sched_pur {i : Nat} {st : Sched} : vcSched P fz ops (.pur i st) σ K = selO P ops ops[i]? σ (kSched P fz ops st K) := by
  show vcPur P ops i σ (kSched P fz ops st K) = _
  unfold vcPur selO selPur
  rfl
theorem sched_eff {j : Nat} {chk : List Nat} {st : Sched} : vcSched P fz ops (.eff j chk st) σ K = selI P fz ops ops[j]? σ (kChk P fz ops chk st K) := rfl
theorem sched_alt {j1 : Nat} {c1 : List Nat} {r1 : Sched} {j2 : Nat} {c2 : List Nat} {r2 : Sched} : vcSched P fz ops (.alt j1 c1 r1 j2 c2 r2) σ K = (selI P fz ops ops[j1]? σ (kChk P fz ops c1 r1 K) ∧ selI P fz ops ops[j2]? σ (kChk P fz ops c2 r2 K)) := rfl
theorem sched_alt3 {j1 : Nat} {c1 : List Nat} {r1 : Sched} {j2 : Nat} {c2 : List Nat} {r2 : Sched} {j3 : Nat} {c3 : List Nat} {r3 : Sched} : vcSched P fz ops (.alt3 j1 c1 r1 j2 c2 r2 j3 c3 r3) σ K = (selI P fz ops ops[j1]? σ (kChk P fz ops c1 r1 K) ∧ selI P fz ops ops[j2]? σ (kChk P fz ops c2 r2 K) ∧ selI P fz ops ops[j3]? σ (kChk P fz ops c3 r3 K)) := rfl
theorem schA_nil {t : Sched} : schA [] t = t := rfl
theorem schA_pur {i : Nat} {r : List Step} {t : Sched} : schA (.pur i :: r) t = .pur i (schA r t) := rfl
theorem schA_eff {j : Nat} {c : List Nat} {r : List Step} {t : Sched} : schA (.eff j c :: r) t = .eff j c (schA r t) := rfl
theorem sch_is {l : List Step} : sch l = schA l .nil := rfl
theorem selI_u {dst : Option Nat} {op : Op} {ty : TypeId} {pos : String} {aft : Array Edge} : selI P fz ops (some ⟨dst, op, ty, pos, aft, none⟩) σ K = vcSel P fz σ dst op (fval P σ op) K := by
  simp only [selI, vcOp, vcSel]
  cases fval P σ op <;> rfl
theorem selI_g {dst : Option Nat} {op : Op} {ty : TypeId} {pos : String} {aft : Array Edge} {j : Nat} {b : Bool} : selI P fz ops (some ⟨dst, op, ty, pos, aft, some (j, b)⟩) σ K = vcSelG P fz σ dst op (gBool (guardAV σ ops j) b) (fval P σ op) K := by
  simp only [selI, vcOp, vcSelG, vcSelC]
  cases gBool (guardAV σ ops j) b with
  | none => rfl
  | some g => cases fval P σ op <;> rfl
theorem pureV_u {dst : Option Nat} {op : Op} {ty : TypeId} {pos : String} {aft : Array Edge} : pureV P σ ops ⟨dst, op, ty, pos, aft, none⟩ = fval P σ op := rfl
def gPA (g : Option Bool) (q : Option PA) : Option PA := match g, q with
  | some g, some (p, x) => some (g = true → p, mkOp g x)
  | _, _ => none
theorem pureV_g {dst : Option Nat} {op : Op} {ty : TypeId} {pos : String} {aft : Array Edge} {j : Nat} {b : Bool} : pureV P σ ops ⟨dst, op, ty, pos, aft, some (j, b)⟩ = gPA (gBool (guardAV σ ops j) b) (fval P σ op) := rfl
theorem gPA_some {g : Bool} {p : Prop} {x : AV} : gPA (some g) (some (p, x)) = some (g = true → p, mkOp g x) := rfl
def selChk (σ : AS) (q : Option PA) (d : Option Nat) : Prop := match q, d with
  | some (p, x), some d => p ∧ x = σ.sl d
  | _, _ => False
theorem selChk_some {p : Prop} {x : AV} {d : Nat} : selChk σ (some (p, x)) (some d) = (p ∧ x = σ.sl d) := rfl
def selChO (P : Program) (ops : Array Oper) (σ : AS) (o : Option Oper) : Prop := match o with
  | some o => selChk σ (pureV P σ ops o) o.dst
  | none => False
theorem selChO_some {o : Oper} : selChO P ops σ (some o) = selChk σ (pureV P σ ops o) o.dst := rfl
theorem chk_nil : chkAll P ops σ [] = True := rfl
theorem chk_cons {i : Nat} {l : List Nat} : chkAll P ops σ (i :: l) = (selChO P ops σ ops[i]? ∧ chkAll P ops σ l) := rfl

theorem put_sl {k : Nat} {x : AV} {t : Nat} : (σ.put (some k) x).sl t = if t = k then x else σ.sl t := rfl
theorem put_none {x : AV} : σ.put none x = σ := rfl
theorem put_hp {k : Option Nat} {x : AV} : (σ.put k x).hp = σ.hp := by cases k <;> rfl
theorem put_used {k : Option Nat} {x : AV} : (σ.put k x).used = σ.used := by cases k <;> rfl
theorem entry_sl {args : List AV} {hs : List (Nat × Blk)} {t : Nat} : (entryS args hs).sl t = (args[t]?).getD .unk := rfl
theorem entry_hp {args : List AV} {hs : List (Nat × Blk)} {t : Nat} : (entryS args hs).hp = hpOf hs := rfl
theorem opd_tmp {t : Nat} : σ.opd (.tmp t) = σ.sl t := rfl
theorem opd_const {v : Value} : σ.opd (.const v) = ofVal v := rfl
theorem opd_func {f : FuncId} : σ.opd (.func f) = .fv (.func f) [] [] := rfl
theorem mkS_hp {slots : List (Nat × AV)} {heap : List (Nat × Blk)} {used : List Nat} : (mkS slots heap used).hp = hpOf heap := rfl
def lkS : List (Nat × AV) → Nat → AV
  | [], _ => .unk
  | (k, x) :: r, t => if t = k then x else lkS r t
theorem mkS_sl {slots : List (Nat × AV)} {heap : List (Nat × Blk)} {used : List Nat} {t : Nat} : (mkS slots heap used).sl t = lkS slots t := by
  simp only [mkS]
  induction slots with
  | nil => rfl
  | cons p r ih =>
    obtain ⟨k, x⟩ := p
    rw [List.lookup_cons, lkS]
    by_cases h : t = k
    · subst h; simp
    · rw [if_neg h, ← ih]
      have : (t == k) = false := by simpa using h
      rw [this]

/-- The result is a datum, or is handed back as one. -/
def retF (p : Prop) (q : Option (Prop × D × List Nat)) (R : D → Prop) : Prop :=
  match q with
  | some (q, y, _) => p ∧ q ∧ R y
  | none => False
def retP (σ : AS) (q : PA) (R : D → Prop) : Prop := retF q.1 (toD σ.hp q.2) R
def retD (P : Program) (rs : List ResultVar) (R : D → Prop) : Ex → AS → Prop
  | .exit _, _ => False
  | _, σ => retP σ (resAV P σ rs) R
theorem retD_r {rs : List ResultVar} {R : D → Prop} : retD P rs R .ret σ = retP σ (resAV P σ rs) R := rfl
theorem retD_n {rs : List ResultVar} {R : D → Prop} : retD P rs R .normal σ = retP σ (resAV P σ rs) R := rfl
theorem retP_is {p : Prop} {x : AV} {R : D → Prop} : retP σ (p, x) R = retF p (toD σ.hp x) R := rfl
theorem retF_some {p q : Prop} {y : D} {l : List Nat} {R : D → Prop} : retF p (some (q, y, l)) R = (p ∧ q ∧ R y) := rfl

/-- Functions that only read, and answer with a datum. -/
def DCalls (P : Program) (f : FuncId) (args : List AV) (R : D → Prop) : Prop := ACalls P f args [] fun x _ res => (∃ r, x = .d r ∧ R r) ∧ res = []

theorem acalls_intro {f : FuncId} {fn : Func} {code : Code} {n : Nat} {rs : List ResultVar} (hm : P.follows .mixedOrders = true) (hf : P.funcs[f]? = some fn) (hb : fn.body = some code) (hn : fn.ntmps = n) (hr : fn.results.toList = rs)
    (fz : List Nat) (hst : slotsOk n code = true) {args : List AV} {hs : List (Nat × Blk)} {K : AV → List Blk → List (Nat × Blk) → Prop}
    (hargs : args.length ≤ n) (hv : VC P fz code (entryS args hs) (retQ P (hs.map Prod.fst) rs K)) : ACalls P f args hs K := by
  subst hn; subst hr
  exact acalls_of_vc hm hf hb fz hst hargs hv

theorem dcalls_intro {f : FuncId} {fn : Func} {code : Code} {n : Nat} {rs : List ResultVar} (hm : P.follows .mixedOrders = true) (hf : P.funcs[f]? = some fn) (hb : fn.body = some code) (hn : fn.ntmps = n) (hr : fn.results.toList = rs)
    (fz : List Nat) (hst : slotsOk n code = true) {args : List AV} {R : D → Prop}
    (hargs : args.length ≤ n) (hv : VC P fz code (entryS args []) (retD P rs R)) : DCalls P f args R := by
  subst hn; subst hr
  refine acalls_of_vcQ hm hf hb fz hst hargs (Q := retD P fn.results.toList R) (fun ex σ h => ?_) hv
  have key : retP σ (resAV P σ fn.results.toList) R → (resAV P σ fn.results.toList).1 ∧ RetVC P [] σ (resAV P σ fn.results.toList).2 fun x _ res => (∃ r, x = .d r ∧ R r) ∧ res = [] := fun h => by
    generalize resAV P σ fn.results.toList = q at h ⊢
    obtain ⟨p, x⟩ := q
    unfold retP retF at h
    split at h
    · rename_i q y l e
      exact ⟨h.1, .toD e h.2.1 ⟨⟨_, rfl, h.2.2⟩, rfl⟩⟩
    · exact h.elim
  cases ex with
  | exit i => exact h
  | normal => exact key h
  | ret => exact key h

end

section
variable {P : Program} {fz : List Nat}




/-- A guarded call. -/
def GCall (P : Program) (fz : List Nat) (σ : AS) (dst : Option Nat) (f : FuncId) (args : Array Operand) (ats : Array TypeId) (xs : List AV) (g : Bool) (K : AS → Prop) : Prop :=
  xs = args.toList.map σ.opd → vcSelC P fz σ dst (.call ⟨.value (.func f), args, ats⟩) g K
theorem selC_call {σ : AS} {dst : Option Nat} {f : FuncId} {args : Array Operand} {ats : Array TypeId} {g : Bool} {K : AS → Prop} : vcSelC P fz σ dst (.call ⟨.value (.func f), args, ats⟩) g K = GCall P fz σ dst f args ats (args.toList.map σ.opd) g K := by
  simp [GCall]
theorem GCall.flat {σ : AS} {dst : Option Nat} {f : FuncId} {args : Array Operand} {ats : Array TypeId} {g : Bool} {K : AS → Prop} {xs ys : List AV} {p : Prop} {l : List Nat} {v : D}
    (hc : g = true → DCalls P f ys fun r => r = v) (hv : viewL P σ.hp (strips xs) = some (p, ys, l)) (hs : g = true → stripsP xs ∧ p) (hf : v.flat = true) (hcb : callable P f = true) (hk : K (σ.put dst (.op g (.d v)))) : GCall P fz σ dst f args ats xs g K := by
  intro hx
  refine .inr ⟨v, fun hg => ?_, hk⟩
  subst hx
  refine ⟨trivial, (hs hg).1, ?_⟩
  simp only [opd_func, AV.strip, call_fv]
  refine ⟨hcb, ?_⟩
  simp only [List.nil_append, List.append_nil]
  refine CallVC.flat hv (hs hg).2 (r := v) ((hc hg).mono ?_) hf ⟨rfl, rfl⟩
  rintro x _ res ⟨⟨r, rfl, rfl⟩, h2⟩
  exact ⟨rfl, h2⟩
theorem CallVC.dflat {σ : AS} {f : FuncId} {xs ys : List AV} {p : Prop} {l : List Nat} {R : D → Prop} {K : AV → AS → Prop} (hc : DCalls P f ys R) (hv : viewL P σ.hp xs = some (p, ys, l)) (hp : p) (hf : ∀ r, R r → r.flat = true) (hk : ∀ r, R r → K (.d r) σ) : CallVC P f xs σ K := by
  refine CallVC.flats hv hp (R := R) (hc.mono ?_) hk
  rintro x _ res ⟨⟨r, rfl, hr⟩, h2⟩
  exact ⟨⟨r, rfl, hf r hr, hr⟩, h2⟩
theorem CallVC.dval {σ : AS} {f : FuncId} {xs ys : List AV} {p : Prop} {l : List Nat} {v : D} {K : AV → AS → Prop} (hc : DCalls P f ys fun r => r = v) (hv : viewL P σ.hp xs = some (p, ys, l)) (hp : p) (hf : v.flat = true) (hk : K (.d v) σ) : CallVC P f xs σ K :=
  .dflat hc hv hp (by rintro r rfl; exact hf) (by rintro r rfl; exact hk)
theorem CallVC.ddat {σ : AS} {f : FuncId} {xs ys : List AV} {p : Prop} {R : D → Prop} {K : AV → AS → Prop} (hc : DCalls P f ys R) (hv : viewL P σ.hp xs = some (p, ys, [])) (hp : p) (hk : ∀ r, R r → K (.d r) σ) : CallVC P f xs σ K :=
  .data hv hp hc hk

/-- A loop whose states are written out. -/
theorem LoopVC.at {body : AS → (Ex → AS → Prop) → Prop} {σ : AS} {Q : Ex → AS → Prop} (G : Type) (slots : G → List (Nat × AV)) (heap : G → List (Nat × Blk)) (used : List Nat) (μ : G → Nat) (g0 : G) (hs : slotsLe σ used (slots g0)) (hh : heapLe σ used (heap g0))
    (h : ∀ g, body (mkS (slots g) (heap g) used) (loopQ P (fun g => mkS (slots g) (heap g) used) μ g Q)) : LoopVC P body σ Q :=
  ⟨G, fun g => mkS (slots g) (heap g) used, μ, g0, .mk hs hh, h⟩

theorem mkAg_map (cs : List D) : mkAg (cs.map .d) = .d (.agg cs) := by
  have : ∀ cs : List D, AV.allD (cs.map .d) = some cs := by
    intro cs; induction cs with
    | nil => rfl
    | cons x r ih => simp [AV.allD, ih]
  simp [mkAg, this]

theorem CallVC.mono {f : FuncId} {as : List AV} {σ : AS} {K K' : AV → AS → Prop} (h : CallVC P f as σ K) (hk : ∀ x s, K x s → K' x s) : CallVC P f as σ K' := by
  intro c ρ w vals loc hr
  refine (h c ρ w vals loc hr).mono fun e w' ⟨v, x, σ', loc', he, hK, hr'⟩ => ⟨v, x, σ', loc', he, hk x σ' hK, hr'⟩

attribute [simp ↓] kSched_ap kChk_ap sched_nil sched_pur sched_eff sched_alt sched_alt3 schA_nil schA_pur schA_eff sch_is chk_nil chk_cons kVC_ap kOps_ap kPut_ap kD_ap VC_skip VC_ret VC_exit VC_seq VC_block VC_cond VC_region VC_loop VC_any seqQ_n seqQ_e seqQ_r blockQ_n blockQ_e blockQ_r loopQ_n loopQ_e loopQ_r vcOps_nil vcOps_cons vcOps_consG
  act_makeMap act_insert act_mapUpdate act_lookup act_make act_bslice append_is act_alloc act_box act_store act_call callOp_append callOp_copy callOp_value condVC_t condVC_f
attribute [simp] mapPut_is selMp_some mapGet_is selMg_some keyOk selCp_some selCpH_some selPur_some selO_some selI_u selI_g pureV_u pureV_g gPA_some selChk_some selChO_some selMk_some selMkZ_some zeroT makeL_some selMl_some selBs_some selBsT_some selBl_some selBlT_some selAp_nl selApN_some selAp_sl selApS_some selAp_none appL_sl selAl_nl selAl_sl selAlH_some withHp_sl withHp_hp withHp_used new_sl new_hp new_used renew_sl renew_hp renew_used set_heap drop_heap kill_heap hpOf_heap mkS_used entry_used AS.free AV.kill AV.killL Blk.kill HP.dropL AV.vw AV.vw1
  setCells AV.cell1 D.isAgg toDs newElem dsets zeroD ofValD ofValDs D.fits srcOf CloVC slotsLe heapLe AV.kp AV.kpL Blk.kp outU lookH toDA toD toD1 toD0 toD0s toDx D.cells Option.map_some vcSel_some vcSel_none vcSelG_some vcSelG_none condVC_b condVC_t condVC_f selAlloc_some selAlloc_zero selBox_t selBox_f store_ptr selStB_some store_ep selStE_some selStE_bx selStX_some call_fv call_clo
  put_sl put_none put_hp put_used entry_sl entry_hp opd_tmp opd_const opd_func mkS_hp mkS_sl lkS fval ofVal st1 st2 AV.strip fPick fPickC mkOp fBuild fBuildGo fBin fBinInt fBinStr fUn guardAV gBool fLoad fField fIdx fIndex fLen pickCells mkAg AV.allD
  resAV resAll resOne stO fSlice fConv fCall fMin fMax fConvX fConvB D.isU8 D.u8 fAggEq aggOk aggEq fExtract fNil selC_call bnd strips stripsP cellsA retD_r retD_n retP_is retF_some

end
end Go.Fw

/- Functions with several results; functions that are handed one block to write, by a pointer. -/
namespace Go.Fw
open Go

section
variable {P : Program} {fz : List Nat} {σ : AS} {Q : Ex → AS → Prop} {K : AS → Prop}

/-- A guarded call that may write: both ways. -/
theorem GCall.go {dst : Option Nat} {f : FuncId} {args : Array Operand} {ats : Array TypeId} {g : Bool} {xs : List AV} (hcb : callable P f = true) (hs : g = true → stripsP xs) (ht : g = true → CallVC P f (strips xs) σ (kPut dst K)) (hf : g = false → K (σ.put dst .unk)) :
    GCall P fz σ dst f args ats xs g K := by
  intro hx
  refine .inl ⟨fun hg => ?_, hf⟩
  have h1 := hs hg
  have h2 := ht hg
  subst hx
  refine ⟨trivial, h1, ?_⟩
  simp only [opd_func, AV.strip, call_fv]
  refine ⟨hcb, ?_⟩
  simp only [List.nil_append, List.append_nil]
  exact h2

/-- Behind a drawn region, states that are written out. -/
theorem AnyVC.cutAt {ops : Array Oper} (G : Type) (slots : G → List (Nat × AV)) (heap : G → List (Nat × Blk)) (used : List Nat) (sc : Sched) (h : (Region.noSelect ops && schedOk ops (Array.replicate ops.size false) [] sc) = true)
    (hv : vcSched P fz ops sc σ fun σ' => ∃ g, slotsLe σ' used (slots g) ∧ heapLe σ' used (heap g)) (hk : ∀ g, K (mkS (slots g) (heap g) used)) : AnyVC P fz ops σ K :=
  ⟨σ, Wk.refl P σ, .inr ⟨sc, G, fun g => mkS (slots g) (heap g) used, fun σ' g => slotsLe σ' used (slots g) ∧ heapLe σ' used (heap g), fun _ _ h => .mk h.1 h.2, h, hv, hk⟩⟩

theorem CallVC.dvalE {f : FuncId} {xs ys ys' : List AV} {p : Prop} {l : List Nat} {v : D} {K : AV → AS → Prop} (hc : DCalls P f ys fun r => r = v) (hv : viewL P σ.hp xs = some (p, ys', l)) (he : ys' = ys) (hp : p) (hf : v.flat = true) (hk : K (.d v) σ) : CallVC P f xs σ K :=
  .dval hc (he ▸ hv) hp hf hk
theorem GCall.flatE {dst : Option Nat} {f : FuncId} {args : Array Operand} {ats : Array TypeId} {g : Bool} {xs ys ys' : List AV} {p : Prop} {l : List Nat} {v : D}
    (hc : g = true → DCalls P f ys fun r => r = v) (hv : viewL P σ.hp (strips xs) = some (p, ys', l)) (he : ys' = ys) (hs : g = true → stripsP xs ∧ p) (hf : v.flat = true) (hcb : callable P f = true) (hk : K (σ.put dst (.op g (.d v)))) : GCall P fz σ dst f args ats xs g K :=
  .flat hc (he ▸ hv) hs hf hcb hk

/-! ### A slice of the frame's own, taken as a datum from now on -/

theorem Wk.frz (s : Nat) {p : Prop} {y : D} {l : List Nat} (hd : toD σ.hp (σ.sl s) = some (p, y, l)) (hp : p) : Wk P σ ((σ.withHp (σ.hp.dropL l)).put (some s) (.d y)) := by
  intro c ρ w loc h
  have hv := toD_rep h hd hp (h.slots s) (l' := l) fun i hi => hi
  have h2 := RepL.dropL l h
  refine ⟨loc, fun t => ?_, h2.len, h2.vals, h2.heap, h2.inj, h2.own, h2.ext, h2.fix, h2.dom, h2.liveU⟩
  simp only [AS.put, AS.withHp, upd]
  by_cases ht : t = s
  · subst ht; rw [if_pos rfl]; exact .d hv
  · rw [if_neg ht]; exact h2.slots t
theorem LoopVC.wk {σ' : AS} {body : AS → (Ex → AS → Prop) → Prop} (h : Wk P σ σ') (hl : LoopVC P body σ' Q) : LoopVC P body σ Q :=
  let ⟨G, I, μ, g0, h0, hr⟩ := hl
  ⟨G, I, μ, g0, h.trans h0, hr⟩

/-- A nil slice in a cell of a block is taken as one of the frame's own. -/
theorem Wk.adoptBx (id i k sz : Nat) {cs : List AV} (hh : σ.hp.heap id = some (.bx cs)) (hi : cs[i]? = some .nl) (hf : σ.free k) :
    Wk P σ ((σ.new k (.ar sz [])).withHp ((σ.new k (.ar sz [])).hp.set id (.bx (cs.set i (.sl sz k 0 0))))) := by
  intro c ρ w loc h
  have h2 := h.adopt k hf sz
  have hne : id ≠ k := fun e => by
    have h1 := h.liveU id (by simp [Live, hh])
    have h3 := hf.2
    rw [← e, h1] at h3; cases h3
  have hh2 : (σ.new k (.ar sz [])).hp.heap id = some (.bx cs) := by simp [AS.new, HP.set, upd, hne, hh]
  have hlive : Live (σ.new k (.ar sz [])).hp id := by unfold Live; rw [hh2]; simp
  cases h2.heap id _ hh2 with | @bx b cur T _ hl hb hz hcs =>
  refine ⟨loc, h2.write id b 0 _ hlive hl (Shapes.refl w) ⟨rfl, rfl, rfl⟩ rfl (fun _ _ => rfl) fun hk => ?_⟩
  refine .bx hl hb (by simpa using hz) fun j v y hv hy => ?_
  rw [List.getElem?_set] at hy
  split at hy
  · rename_i hij
    subst hij
    split at hy
    · simp only [Option.some.injEq] at hy; subst hy
      have := hcs i v .nl hv hi
      cases this; exact .sl0 none sz k 0
    · cases hy
  · exact (hcs j v y hv hy).mono (fun b hb => hk b hb) (Shapes.refl w)

/-! ### Several results, all of them data -/

/-- Functions that only read, and answer with several data. -/
def TCalls (P : Program) (f : FuncId) (args : List AV) (R : List D → Prop) : Prop := ACalls P f args [] fun x _ res => (∃ r, x = .tp (r.map .d) ∧ R r) ∧ res = []

theorem RetVC.toDT {xs : List AV} {p : Prop} {ys : List D} {l : List Nat} {K : AV → List Blk → List (Nat × Blk) → Prop} (hd : Fw.toDA σ.hp xs = some (p, ys, l)) (hp : p) (hk : K (.tp (ys.map .d)) [] []) : RetVC P [] σ (.tp xs) K :=
  ⟨.tp (ys.map .d), [], [], hk, rfl, by simp, fun c ρ w v loc h => by
    obtain ⟨h1, h2⟩ := toDA_rep h hd hp (l' := l) fun i hi => hi
    have hv := h.val1
    have hv' : RepA P w (okOf c w (σ.hp.dropL l) loc) loc v (.tp (ys.map .d)) := by
      cases hv with | tp hs hc =>
      refine .tp (by simp [hs, h1]) fun i u y hu hy => ?_
      simp only [List.getElem?_map, Option.map_eq_some_iff] at hy
      obtain ⟨y', hy', rfl⟩ := hy
      have hi : i < xs.length := by have := (List.getElem?_eq_some_iff.1 hy').1; omega
      exact .d (h2 i u xs[i] y' (List.getElem?_eq_getElem hi) hy' (hc i u xs[i] hu (List.getElem?_eq_getElem hi)))
    exact ((RepL.dropL l h).setVal1 hv').cut [] (by simp [lookH]) (by simp [AV.kp, AV.kpL_eq])⟩

def retTF (p : Prop) (q : Option (Prop × List D × List Nat)) (R : List D → Prop) : Prop :=
  match q with
  | some (q, y, _) => p ∧ q ∧ R y
  | none => False
def retTP (σ : AS) (q : PA) (R : List D → Prop) : Prop := match q with
  | (p, .tp xs) => retTF p (Fw.toDA σ.hp xs) R
  | _ => False
def retT (P : Program) (rs : List ResultVar) (R : List D → Prop) : Ex → AS → Prop
  | .exit _, _ => False
  | _, σ => retTP σ (resAV P σ rs) R
theorem retT_r {rs : List ResultVar} {R : List D → Prop} : retT P rs R .ret σ = retTP σ (resAV P σ rs) R := rfl
theorem retT_n {rs : List ResultVar} {R : List D → Prop} : retT P rs R .normal σ = retTP σ (resAV P σ rs) R := rfl
theorem retTP_is {p : Prop} {xs : List AV} {R : List D → Prop} : retTP σ (p, .tp xs) R = retTF p (Fw.toDA σ.hp xs) R := rfl
theorem retTF_some {p q : Prop} {y : List D} {l : List Nat} {R : List D → Prop} : retTF p (some (q, y, l)) R = (p ∧ q ∧ R y) := rfl

theorem tcalls_intro {f : FuncId} {fn : Func} {code : Code} {n : Nat} {rs : List ResultVar} (hm : P.follows .mixedOrders = true) (hf : P.funcs[f]? = some fn) (hb : fn.body = some code) (hn : fn.ntmps = n) (hr : fn.results.toList = rs)
    (fz : List Nat) (hst : slotsOk n code = true) {args : List AV} {R : List D → Prop}
    (hargs : args.length ≤ n) (hv : VC P fz code (entryS args []) (retT P rs R)) : TCalls P f args R := by
  subst hn; subst hr
  refine acalls_of_vcQ hm hf hb fz hst hargs (Q := retT P fn.results.toList R) (fun ex σ h => ?_) hv
  have key : retTP σ (resAV P σ fn.results.toList) R → (resAV P σ fn.results.toList).1 ∧ RetVC P [] σ (resAV P σ fn.results.toList).2 fun x _ res => (∃ r, x = .tp (r.map .d) ∧ R r) ∧ res = [] := fun h => by
    generalize resAV P σ fn.results.toList = q at h ⊢
    unfold retTP at h
    split at h
    · rename_i p xs
      unfold retTF at h
      split at h
      · rename_i q y l e
        exact ⟨h.1, .toDT e h.2.1 ⟨⟨_, rfl, h.2.2⟩, rfl⟩⟩
      · exact h.elim
    · exact h.elim
  cases ex with
  | exit i => exact h
  | normal => exact key h
  | ret => exact key h

theorem back_tpd (ys : List D) (g : Nat → Nat) (base : Nat) (keys : List Nat) (res : List (Nat × Blk)) : (AV.tp (ys.map .d)).back g base keys res = .tp (ys.map .d) := by
  simp only [AV.back, AV.kp, AV.ren, AV.kpL_eq, AV.renL_eq, List.map_map]
  congr 1

/-- A call with several results, data without slices. -/
theorem CallVC.tflat {f : FuncId} {as args : List AV} {p : Prop} {l : List Nat} {R : List D → Prop} {K : AV → AS → Prop} (hc : TCalls P f args R) (hv : viewL P σ.hp as = some (p, args, l)) (hp : p)
    (hf : ∀ r, R r → r.all D.flat = true) (hk : ∀ r, R r → K (.tp (r.map .d)) σ) : CallVC P f as σ K := by
  refine .view hv hp 100 false (hc.mono fun x _ res ⟨⟨r, h1, h3⟩, h2⟩ => ?_) (by omega)
  subst h1; subst h2
  refine ⟨⟨by simp, by omega, by simp, .inr (.inr ⟨?_, rfl⟩)⟩, ?_⟩
  · have := hf r h3
    simp only [AV.flatR, List.all_map, List.all_eq_true] at this ⊢
    intro y hy
    exact this y hy
  · rw [back_tpd, after_none]; exact hk r h3
/-- A call with several results, which looks at no block of the frame's own. -/
theorem CallVC.tdat {f : FuncId} {as args : List AV} {p : Prop} {R : List D → Prop} {K : AV → AS → Prop} (hc : TCalls P f args R) (hv : viewL P σ.hp as = some (p, args, [])) (hp : p)
    (hk : ∀ r, R r → K (.tp (r.map .d)) σ) : CallVC P f as σ K := by
  refine .view hv hp 100 false (hc.mono fun x _ res ⟨⟨r, h1, h3⟩, h2⟩ => ?_) (by omega)
  subst h1; subst h2
  refine ⟨⟨by simp, by omega, by simp, .inr (.inl rfl)⟩, ?_⟩
  rw [back_tpd, after_none]; exact hk r h3

theorem after_drop (base : Nat) (g : Nat → Nat) (l : List Nat) : σ.after g base true l [] [] [] = σ.withHp (σ.hp.dropL l) := by
  have h1 : (fun id => inNew base ([] : List (Nat × Blk)).length id || σ.used id) = σ.used := by
    funext id
    have : inNew base ([] : List (Nat × Blk)).length id = false := by simp [inNew]
    rw [this, Bool.false_or]
  simp only [AS.after, h1]
  rfl
/-- Calls that look at blocks of the frame's own, which it then gives up. -/
theorem CallVC.ddrop {f : FuncId} {as args : List AV} {p : Prop} {l : List Nat} {R : D → Prop} {K : AV → AS → Prop} (hc : DCalls P f args R) (hv : viewL P σ.hp as = some (p, args, l)) (hp : p)
    (hk : ∀ r, R r → K (.d r) (σ.withHp (σ.hp.dropL l))) : CallVC P f as σ K := by
  refine .view hv hp 100 true (hc.mono fun x _ res ⟨⟨r, h1, h3⟩, h2⟩ => ?_) (by omega)
  subst h1; subst h2
  refine ⟨⟨by simp, by omega, by simp, .inl rfl⟩, ?_⟩
  rw [back_d, after_drop]; exact hk r h3
theorem CallVC.tdrop {f : FuncId} {as args : List AV} {p : Prop} {l : List Nat} {R : List D → Prop} {K : AV → AS → Prop} (hc : TCalls P f args R) (hv : viewL P σ.hp as = some (p, args, l)) (hp : p)
    (hk : ∀ r, R r → K (.tp (r.map .d)) (σ.withHp (σ.hp.dropL l))) : CallVC P f as σ K := by
  refine .view hv hp 100 true (hc.mono fun x _ res ⟨⟨r, h1, h3⟩, h2⟩ => ?_) (by omega)
  subst h1; subst h2
  refine ⟨⟨by simp, by omega, by simp, .inl rfl⟩, ?_⟩
  rw [back_tpd, after_drop]; exact hk r h3

/-! ### One block that is handed over, by a pointer, as the first argument -/

/-- What a function that is handed a block of data answers: a datum, or several; and what the block holds then. -/
inductive RV where
  | one (y : D)
  | many (ys : List D)
def RV.av : RV → AV
  | .one y => .d y
  | .many ys => .tp (ys.map .d)

def RCalls (P : Program) (f : FuncId) (args : List AV) (b : List D) (R : RV → List D → Prop) : Prop :=
  ACalls P f (.ptr 1 0 :: args) [(1, .bx (b.map .d))] fun x bs res => (∃ r b', x = r.av ∧ bs = [.bx (b'.map .d)] ∧ R r b') ∧ res = []

theorem RCalls.mono {f : FuncId} {args : List AV} {b : List D} {R R' : RV → List D → Prop} (h : RCalls P f args b R) (hk : ∀ r b', R r b' → R' r b') : RCalls P f args b R' :=
  ACalls.mono h fun x bs res ⟨⟨r, b', h1, h2, h3⟩, h4⟩ => ⟨⟨r, b', h1, h2, hk r b' h3⟩, h4⟩

theorem kp_ds (p : Nat → Bool) (ds : List D) : AV.kpL p (ds.map .d) = ds.map .d := by
  rw [AV.kpL_eq, List.map_map]; rfl
theorem ren_ds (g : Nat → Nat) (ds : List D) : AV.renL g (ds.map .d) = ds.map .d := by
  rw [AV.renL_eq, List.map_map]; rfl
theorem RV.kp (p : Nat → Bool) (r : RV) : r.av.kp p = r.av := by
  cases r with
  | one y => rfl
  | many ys => simp only [RV.av, AV.kp, kp_ds]
theorem RV.ren (g : Nat → Nat) (r : RV) : r.av.ren g = r.av := by
  cases r with
  | one y => rfl
  | many ys => simp only [RV.av, AV.ren, ren_ds]

/-- The result as data: blocks that lie in it are given up. -/
def toRV (hp : HP) : AV → Option (Prop × RV × List Nat)
  | .tp xs => (Fw.toDA hp xs).map fun p => (p.1, .many p.2.1, p.2.2)
  | x => (Fw.toD hp x).map fun p => (p.1, .one p.2.1, p.2.2)

theorem toRV_rep {c : Ctx} {ρ : Nat → Value} {w : World} {vs : List Value} {xs : List AV} {loc : Nat → Option (Nat × Nat)} (h : RepL P c σ ρ w vs xs loc) {v : Value} {x : AV} {p : Prop} {y : RV} {l : List Nat} (hx : toRV σ.hp x = some (p, y, l)) (hp : p)
    (hv : RepA P w (okOf c w σ.hp loc) loc v x) : RepA P w (okOf c w (σ.hp.dropL l) loc) loc v y.av := by
  cases x with
  | tp xs =>
    simp only [toRV, Option.map_eq_some_iff] at hx
    obtain ⟨⟨p', ys, l'⟩, hd, he⟩ := hx
    simp only [Prod.mk.injEq] at he; obtain ⟨rfl, rfl, rfl⟩ := he
    obtain ⟨h1, h2⟩ := toDA_rep h hd hp (l' := l') fun i hi => hi
    cases hv with | tp hs hc =>
    refine .tp (by simp [hs, h1]) fun i u y hu hy => ?_
    simp only [List.getElem?_map, Option.map_eq_some_iff] at hy
    obtain ⟨y', hy', rfl⟩ := hy
    have hi : i < xs.length := by have := (List.getElem?_eq_some_iff.1 hy').1; omega
    exact .d (h2 i u xs[i] y' (List.getElem?_eq_getElem hi) hy' (hc i u xs[i] hu (List.getElem?_eq_getElem hi)))
  | _ =>
    simp only [toRV, Option.map_eq_some_iff] at hx
    obtain ⟨⟨p', y', l'⟩, hd, he⟩ := hx
    simp only [Prod.mk.injEq] at he; obtain ⟨rfl, rfl, rfl⟩ := he
    exact .d (toD_rep h hd hp hv fun i hi => hi)

def retRF (p : Prop) (q : Option (Prop × RV × List Nat)) (hp : HP) (R : RV → List D → Prop) : Prop :=
  match q with
  | some (q, y, l) => p ∧ q ∧ ∃ b', (hp.dropL l).heap 1 = some (.bx (b'.map .d)) ∧ R y b'
  | none => False
def retRP (σ : AS) (q : PA) (R : RV → List D → Prop) : Prop := retRF q.1 (toRV σ.hp q.2) σ.hp R
def retR (P : Program) (rs : List ResultVar) (R : RV → List D → Prop) : Ex → AS → Prop
  | .exit _, _ => False
  | _, σ => retRP σ (resAV P σ rs) R
theorem retR_r {rs : List ResultVar} {R : RV → List D → Prop} : retR P rs R .ret σ = retRP σ (resAV P σ rs) R := rfl
theorem retR_n {rs : List ResultVar} {R : RV → List D → Prop} : retR P rs R .normal σ = retRP σ (resAV P σ rs) R := rfl
theorem retRP_is {p : Prop} {x : AV} {R : RV → List D → Prop} : retRP σ (p, x) R = retRF p (toRV σ.hp x) σ.hp R := rfl
theorem retRF_some {p q : Prop} {y : RV} {l : List Nat} {hp : HP} {R : RV → List D → Prop} : retRF p (some (q, y, l)) hp R = (p ∧ q ∧ ∃ b', (hp.dropL l).heap 1 = some (.bx (b'.map .d)) ∧ R y b') := rfl

theorem RetVC.toR {x : AV} {p : Prop} {y : RV} {l : List Nat} {b' : List D} {K : AV → List Blk → List (Nat × Blk) → Prop} (hd : toRV σ.hp x = some (p, y, l)) (hp : p) (hb : (σ.hp.dropL l).heap 1 = some (.bx (b'.map .d)))
    (hk : K y.av [.bx (b'.map .d)] []) : RetVC P [1] σ x K :=
  ⟨y.av, [.bx (b'.map .d)], [], hk, rfl, by simp, fun c ρ w v loc h => by
    have hv := toRV_rep h hd hp h.val1
    refine ((RepL.dropL l h).setVal1 hv).cut [(1, .bx (b'.map .d))] (fun id b hib => ?_) (by simp [RV.kp])
    simp only [lookH] at hib
    split at hib
    · rename_i he; subst he; simp only [Option.some.injEq] at hib; subst hib
      exact ⟨hb, by simp [Blk.kp, kp_ds]⟩
    · cases hib⟩

theorem rcalls_intro {f : FuncId} {fn : Func} {code : Code} {n : Nat} {rs : List ResultVar} (hm : P.follows .mixedOrders = true) (hf : P.funcs[f]? = some fn) (hb : fn.body = some code) (hn : fn.ntmps = n) (hr : fn.results.toList = rs)
    (fz : List Nat) (hst : slotsOk n code = true) {args : List AV} {b : List D} {R : RV → List D → Prop}
    (hargs : args.length + 1 ≤ n) (hv : VC P fz code (entryS (.ptr 1 0 :: args) [(1, .bx (b.map .d))]) (retR P rs R)) : RCalls P f args b R := by
  subst hn; subst hr
  refine acalls_of_vcQ hm hf hb fz hst (by simpa using hargs) (Q := retR P fn.results.toList R) (fun ex σ h => ?_) hv
  have key : retRP σ (resAV P σ fn.results.toList) R → (resAV P σ fn.results.toList).1 ∧ RetVC P [1] σ (resAV P σ fn.results.toList).2 fun x bs res => (∃ r b', x = r.av ∧ bs = [.bx (b'.map .d)] ∧ R r b') ∧ res = [] := fun h => by
    generalize resAV P σ fn.results.toList = q at h ⊢
    obtain ⟨p, x⟩ := q
    unfold retRP retRF at h
    split at h
    · rename_i q y l e
      obtain ⟨h1, h2, b', h3, h4⟩ := h
      exact ⟨h1, .toR e h2 h3 ⟨⟨_, _, rfl, rfl, h4⟩, rfl⟩⟩
    · exact h.elim
  cases ex with
  | exit i => exact h
  | normal => exact key h
  | ret => exact key h

/-- The block 'id' with other data. -/
theorem after_lend (id : Nat) (b' : List D) (hid : id ≠ 0) : σ.after (fun q => if q = 1 then id else 0) 100 false [] [1] [.bx (b'.map .d)] [] = σ.withHp (σ.hp.set id (.bx (b'.map .d))) := by
  have h1 : (fun i => inNew 100 ([] : List (Nat × Blk)).length i || σ.used i) = σ.used := by
    funext i
    have : inNew 100 ([] : List (Nat × Blk)).length i = false := by simp [inNew]
    rw [this, Bool.false_or]
  simp only [AS.after, h1, AS.withHp]
  congr 1
  simp only [setL, HP.set, Bool.false_eq_true, if_false]
  congr 1
  funext i
  simp only [resE, List.zip_cons_cons, List.zip_nil_right, List.append_nil, List.map_cons, List.map_nil, lookH, renOf, upd, Blk.kp, Blk.ren, kp_ds, ren_ds]
  by_cases hi : i = id
  · simp [hi]
  · simp [hi]

/-- A call that is handed the block 'id'; the other arguments hold no block of the frame's own. -/
theorem CallVC.lend {f : FuncId} {id : Nat} {as args : List AV} {p : Prop} {b : List D} {R : RV → List D → Prop} {K : AV → AS → Prop} (hc : RCalls P f args b R) (hh : σ.hp.heap id = some (.bx (b.map .d))) (hid : id ≠ 0)
    (hv : viewL P σ.hp as = some (p, args, [])) (hp : p) (hk : ∀ r b', R r b' → K r.av (σ.withHp (σ.hp.set id (.bx (b'.map .d))))) : CallVC P f (.ptr id 0 :: as) σ K := by
  intro c ρ w vals loc hr
  have hvals : vals.length = as.length + 1 := by rw [hr.len]; rfl
  obtain ⟨v0, vr, rfl⟩ : ∃ v0 vr, vals = v0 :: vr := by
    cases vals with
    | nil => simp at hvals
    | cons a b => exact ⟨a, b, rfl⟩
  let g : Nat → Nat := fun q => if q = 1 then id else 0
  obtain ⟨v1, v2⟩ := viewL_rep hr (fun q => loc (g q)) hv hp (l' := []) fun i hi => hi
  refine (hr.call (args := .ptr 1 0 :: args) (hs := [(1, .bx (b.map .d))]) [] g 100 (by omega) (by simp [v1]) (fun i x y v ha hb hrr => ?_) (fun q hq => ?_) (fun q blk hq => ?_) (by simp) (fun q q' h1 h2 _ => ?_) hc).mono fun e w' ⟨v, x, bs, res, he, hkk, hbl, hfin⟩ => ?_
  · cases i with
    | zero =>
      simp only [List.getElem?_cons_zero, Option.some.injEq] at ha hb
      subst ha; subst hb
      cases hrr with | ptr hl => exact .ptr (by simpa [g] using hl)
    | succ i =>
      simp only [List.getElem?_cons_succ] at ha hb
      exact v2 i v y x hb ha hrr
  · simp only [List.map_cons, List.map_nil, List.mem_singleton] at hq
    simp [g, hq]
  · simp only [List.mem_singleton, Prod.mk.injEq] at hq
    obtain ⟨rfl, rfl⟩ := hq
    exact ⟨by omega, by simp, by simp [g, hh, Blk.ren, ren_ds]⟩
  · simp only [List.map_cons, List.map_nil, List.mem_singleton] at h1 h2
    rw [h1, h2]
  · obtain ⟨⟨r, b', rfl, rfl, hR⟩, rfl⟩ := hkk
    obtain ⟨loc', hr'⟩ := hfin ⟨by simp, by simp⟩ false (.inr (.inl rfl))
    refine ⟨v, _, _, loc', he, hk r b' hR, ?_⟩
    rw [← after_lend id b' hid]
    have : (r.av).back g 100 [1] [] = r.av := by simp only [AV.back, RV.kp, RV.ren]
    rw [← this]
    exact hr'

/-- A call whose result is a pointer to a new block, which then bears the number 'base'. -/
def NCalls (P : Program) (f : FuncId) (args : List AV) (R : List D → Prop) : Prop := ACalls P f args [] fun x _ res => ∃ id b, x = .ptr id 0 ∧ res = [(id, .bx (b.map .d))] ∧ (100 ≤ id ∧ id < 1000000000000) ∧ R b
theorem CallVC.fresh {f : FuncId} {as args : List AV} {p : Prop} {R : List D → Prop} {K : AV → AS → Prop} (base : Nat) (hc : NCalls P f args R) (hb : (100 ≤ base ∧ base < 1000000000000)) (hu : σ.used base = false) (hv : viewL P σ.hp as = some (p, args, [])) (hp : p)
    (hk : ∀ b, R b → K (.ptr base 0) (σ.new base (.bx (b.map .d)))) : CallVC P f as σ K := by
  refine .view hv hp base false (hc.mono fun x _ res ⟨id, b, h1, h2, hid, h3⟩ => ?_) hb
  subst h1; subst h2
  refine ⟨⟨by simp, hb, by simp [hu]; omega, .inr (.inl rfl)⟩, ?_⟩
  have hid' : ¬ (id < 100 ∨ 1000000000000 ≤ id) := by omega
  have e1 : (AV.ptr id 0).back (fun _ => 0) base [] [(id, .bx (b.map .d))] = .ptr base 0 := by
    simp [AV.back, AV.kp, AV.ren, outE, renOf, posOf, hid']
  have e2 : σ.after (fun _ => 0) base false [] [] [] [(id, .bx (b.map .d))] = σ.new base (.bx (b.map .d)) := by
    simp only [AS.after, AS.new, setL, resE, Bool.false_eq_true, if_false]
    congr 1
    · simp only [HP.set]
      congr 1
      funext i
      simp only [List.zip_nil_left, List.nil_append, List.map_cons, List.map_nil, lookH, renOf, posOf, upd, Blk.kp, Blk.ren, kp_ds, ren_ds, hid', if_false, if_true, Nat.add_zero]
      by_cases hi : i = base
      · simp [hi]
      · simp [hi]
    · funext i
      simp only [inNew, upd, List.length_cons, List.length_nil]
      by_cases hi : i = base
      · simp [hi]
      · have : ¬ (base ≤ i ∧ i < base + (0 + 1)) := by omega
        simp [hi, this]
  rw [e1, e2]
  exact hk b h3

def retNP (σ : AS) (q : PA) (R : List D → Prop) : Prop := match q with
  | (p, .ptr id off) => p ∧ off = 0 ∧ (100 ≤ id ∧ id < 1000000000000) ∧ ∃ b, σ.hp.heap id = some (.bx (b.map .d)) ∧ R b
  | _ => False
def retN (P : Program) (rs : List ResultVar) (R : List D → Prop) : Ex → AS → Prop
  | .exit _, _ => False
  | _, σ => retNP σ (resAV P σ rs) R
theorem retN_r {rs : List ResultVar} {R : List D → Prop} : retN P rs R .ret σ = retNP σ (resAV P σ rs) R := rfl
theorem retN_n {rs : List ResultVar} {R : List D → Prop} : retN P rs R .normal σ = retNP σ (resAV P σ rs) R := rfl
theorem retNP_is {p : Prop} {id off : Nat} {R : List D → Prop} : retNP σ (p, .ptr id off) R = (p ∧ off = 0 ∧ (100 ≤ id ∧ id < 1000000000000) ∧ ∃ b, σ.hp.heap id = some (.bx (b.map .d)) ∧ R b) := rfl

theorem ncalls_intro {f : FuncId} {fn : Func} {code : Code} {n : Nat} {rs : List ResultVar} (hm : P.follows .mixedOrders = true) (hf : P.funcs[f]? = some fn) (hb : fn.body = some code) (hn : fn.ntmps = n) (hr : fn.results.toList = rs)
    (fz : List Nat) (hst : slotsOk n code = true) {args : List AV} {R : List D → Prop}
    (hargs : args.length ≤ n) (hv : VC P fz code (entryS args []) (retN P rs R)) : NCalls P f args R := by
  subst hn; subst hr
  refine acalls_of_vcQ hm hf hb fz hst hargs (Q := retN P fn.results.toList R) (fun ex σ h => ?_) hv
  have key : retNP σ (resAV P σ fn.results.toList) R → (resAV P σ fn.results.toList).1 ∧ RetVC P [] σ (resAV P σ fn.results.toList).2 fun x _ res => ∃ id b, x = .ptr id 0 ∧ res = [(id, .bx (b.map .d))] ∧ (100 ≤ id ∧ id < 1000000000000) ∧ R b := fun h => by
    generalize resAV P σ fn.results.toList = q at h ⊢
    unfold retNP at h
    split at h
    · rename_i p id off
      obtain ⟨h1, rfl, h2, b, h3, h4⟩ := h
      refine ⟨h1, .keep [] [(id, .bx (b.map .d))] rfl (by simp [h2]) (fun q hq => ?_) ?_ ⟨id, b, rfl, rfl, h2, h4⟩⟩
      · simp only [List.map_nil, List.zip_nil_left, List.nil_append, List.mem_singleton] at hq
        subst hq
        exact ⟨h3, by simp [Blk.kp, kp_ds]⟩
      · simp [AV.kp, keepP, lookH, Nat.not_lt.2 h2.1, Nat.not_le.2 h2.2]
    · exact h.elim
  cases ex with
  | exit i => exact h
  | normal => exact key h
  | ret => exact key h

/-- A call whose result is a new slice, to be written on. -/
def SCalls (P : Program) (f : FuncId) (args : List AV) (R : Nat → List D → Prop) : Prop := ACalls P f args [] fun x _ res => ∃ id sz xs, x = .sl sz id 0 xs.length ∧ res = [(id, .ar sz xs)] ∧ (100 ≤ id ∧ id < 1000000000000) ∧ R sz xs
theorem CallVC.freshS {f : FuncId} {as args : List AV} {p : Prop} {l : List Nat} {R : Nat → List D → Prop} {K : AV → AS → Prop} (base : Nat) (hc : SCalls P f args R) (hb : (100 ≤ base ∧ base < 1000000000000)) (hu : σ.used base = false) (hv : viewL P σ.hp as = some (p, args, l)) (hp : p)
    (hk : ∀ sz xs, R sz xs → K (.sl sz base 0 xs.length) ((σ.withHp (σ.hp.dropL l)).new base (.ar sz xs))) : CallVC P f as σ K := by
  refine .view hv hp base true (hc.mono fun x _ res ⟨id, sz, xs, h1, h2, hid, h3⟩ => ?_) hb
  subst h1; subst h2
  refine ⟨⟨by simp, hb, by simp [hu]; omega, .inl rfl⟩, ?_⟩
  have hid' : ¬ (id < 100 ∨ 1000000000000 ≤ id) := by omega
  have e1 : (AV.sl sz id 0 xs.length).back (fun _ => 0) base [] [(id, .ar sz xs)] = .sl sz base 0 xs.length := by
    simp [AV.back, AV.kp, AV.ren, outE, renOf, posOf, hid']
  have e2 : σ.after (fun _ => 0) base true l [] [] [(id, .ar sz xs)] = (σ.withHp (σ.hp.dropL l)).new base (.ar sz xs) := by
    simp only [AS.after, AS.new, AS.withHp, setL, resE, if_true]
    congr 1
    · simp only [HP.set]
      congr 1
      funext i
      simp only [List.zip_nil_left, List.nil_append, List.map_cons, List.map_nil, lookH, renOf, posOf, upd, Blk.kp, Blk.ren, hid', if_false, if_true, Nat.add_zero]
      by_cases hi : i = base
      · simp [hi]
      · simp [hi]
    · funext i
      simp only [inNew, upd, List.length_cons, List.length_nil]
      by_cases hi : i = base
      · simp [hi]
      · have : ¬ (base ≤ i ∧ i < base + (0 + 1)) := by omega
        simp [hi, this]
  rw [e1, e2]
  exact hk sz xs h3

def selS (p : Prop) (sz id off len : Nat) (R : Nat → List D → Prop) : Option Blk → Prop
  | some (.ar sz' xs) => p ∧ off = 0 ∧ (100 ≤ id ∧ id < 1000000000000) ∧ sz = sz' ∧ len = xs.length ∧ R sz xs
  | _ => False
def retSP (σ : AS) (q : PA) (R : Nat → List D → Prop) : Prop := match q with
  | (p, .sl sz id off len) => selS p sz id off len R (σ.hp.heap id)
  | _ => False
def retS (P : Program) (rs : List ResultVar) (R : Nat → List D → Prop) : Ex → AS → Prop
  | .exit _, _ => False
  | _, σ => retSP σ (resAV P σ rs) R
theorem retS_r {rs : List ResultVar} {R : Nat → List D → Prop} : retS P rs R .ret σ = retSP σ (resAV P σ rs) R := rfl
theorem retS_n {rs : List ResultVar} {R : Nat → List D → Prop} : retS P rs R .normal σ = retSP σ (resAV P σ rs) R := rfl
theorem retSP_is {p : Prop} {sz id off len : Nat} {R : Nat → List D → Prop} : retSP σ (p, .sl sz id off len) R = selS p sz id off len R (σ.hp.heap id) := rfl
theorem selS_some {p : Prop} {sz id off len sz' : Nat} {xs : List D} {R : Nat → List D → Prop} : selS p sz id off len R (some (.ar sz' xs)) = (p ∧ off = 0 ∧ (100 ≤ id ∧ id < 1000000000000) ∧ sz = sz' ∧ len = xs.length ∧ R sz xs) := rfl

theorem scalls_intro {f : FuncId} {fn : Func} {code : Code} {n : Nat} {rs : List ResultVar} (hm : P.follows .mixedOrders = true) (hf : P.funcs[f]? = some fn) (hb : fn.body = some code) (hn : fn.ntmps = n) (hr : fn.results.toList = rs)
    (fz : List Nat) (hst : slotsOk n code = true) {args : List AV} {R : Nat → List D → Prop}
    (hargs : args.length ≤ n) (hv : VC P fz code (entryS args []) (retS P rs R)) : SCalls P f args R := by
  subst hn; subst hr
  refine acalls_of_vcQ hm hf hb fz hst hargs (Q := retS P fn.results.toList R) (fun ex σ h => ?_) hv
  have key : retSP σ (resAV P σ fn.results.toList) R → (resAV P σ fn.results.toList).1 ∧ RetVC P [] σ (resAV P σ fn.results.toList).2 fun x _ res => ∃ id sz xs, x = .sl sz id 0 xs.length ∧ res = [(id, .ar sz xs)] ∧ (100 ≤ id ∧ id < 1000000000000) ∧ R sz xs := fun h => by
    generalize resAV P σ fn.results.toList = q at h ⊢
    unfold retSP at h
    split at h
    · rename_i p sz id off len
      unfold selS at h
      split at h
      · rename_i sz' xs hh
        obtain ⟨h1, rfl, h2, rfl, rfl, h4⟩ := h
        refine ⟨h1, .keep [] [(id, .ar sz xs)] rfl (by simp [h2]) (fun q hq => ?_) ?_ ⟨id, sz, xs, rfl, rfl, h2, h4⟩⟩
        · simp only [List.map_nil, List.zip_nil_left, List.nil_append, List.mem_singleton] at hq
          subst hq
          exact ⟨hh, by simp [Blk.kp]⟩
        · simp [AV.kp, keepP, lookH, Nat.not_lt.2 h2.1, Nat.not_le.2 h2.2]
      · exact h.elim
    · exact h.elim
  cases ex with
  | exit i => exact h
  | normal => exact key h
  | ret => exact key h

end

attribute [simp] retS_r retS_n retSP_is selS_some retN_r retN_n retNP_is retT_r retT_n retTP_is retTF_some retR_r retR_n retRP_is retRF_some toRV RV.av fExtract

end Go.Fw

/- Calls whose looked-at arguments are written otherwise. -/
namespace Go.Fw
open Go

section
variable {P : Program} {fz : List Nat} {σ : AS} {Q : Ex → AS → Prop} {K : AS → Prop}

theorem CallVC.ddropE {f : FuncId} {as args args' : List AV} {p : Prop} {l : List Nat} {R : D → Prop} {K : AV → AS → Prop} (hc : DCalls P f args R) (hv : viewL P σ.hp as = some (p, args', l)) (he : args' = args) (hp : p)
    (hk : ∀ r, R r → K (.d r) (σ.withHp (σ.hp.dropL l))) : CallVC P f as σ K := .ddrop hc (he ▸ hv) hp hk
theorem CallVC.tdropE {f : FuncId} {as args args' : List AV} {p : Prop} {l : List Nat} {R : List D → Prop} {K : AV → AS → Prop} (hc : TCalls P f args R) (hv : viewL P σ.hp as = some (p, args', l)) (he : args' = args) (hp : p)
    (hk : ∀ r, R r → K (.tp (r.map .d)) (σ.withHp (σ.hp.dropL l))) : CallVC P f as σ K := .tdrop hc (he ▸ hv) hp hk
theorem CallVC.ddatE {f : FuncId} {xs ys ys' : List AV} {p : Prop} {R : D → Prop} {K : AV → AS → Prop} (hc : DCalls P f ys R) (hv : viewL P σ.hp xs = some (p, ys', [])) (he : ys' = ys) (hp : p) (hk : ∀ r, R r → K (.d r) σ) : CallVC P f xs σ K :=
  .ddat hc (he ▸ hv) hp hk

/-! ### New rows that are handed back as they lie; rows that are handed over to be written -/

def Blk.isAr : Blk → Bool
  | .ar _ _ => true
  | _ => false
theorem isAr_kp {b : Blk} (h : b.isAr = true) (p : Nat → Bool) : b.kp p = b := by cases b <;> simp [Blk.isAr] at h; rfl
theorem isAr_ren {b : Blk} (h : b.isAr = true) (g : Nat → Nat) : b.ren g = b := by cases b <;> simp [Blk.isAr] at h; rfl

/-- A function whose result lies in new rows. -/
def FCalls (P : Program) (f : FuncId) (args : List AV) (R : AV → List (Nat × Blk) → Prop) : Prop := ACalls P f args [] fun x _ res => R x res
def retGP (σ : AS) (q : PA) (R : AV → List (Nat × Blk) → Prop) : Prop :=
  q.1 ∧ ∃ res, R q.2 res ∧ (∀ p ∈ res, (100 ≤ p.1 ∧ p.1 < 1000000000000) ∧ σ.hp.heap p.1 = some p.2 ∧ p.2.isAr = true) ∧ q.2.kp (keepP res) = q.2
def retG (P : Program) (rs : List ResultVar) (R : AV → List (Nat × Blk) → Prop) : Ex → AS → Prop
  | .exit _, _ => False
  | _, σ => retGP σ (resAV P σ rs) R
theorem retG_r {rs : List ResultVar} {R : AV → List (Nat × Blk) → Prop} : retG P rs R .ret σ = retGP σ (resAV P σ rs) R := rfl
theorem retG_n {rs : List ResultVar} {R : AV → List (Nat × Blk) → Prop} : retG P rs R .normal σ = retGP σ (resAV P σ rs) R := rfl
theorem retGP_is {p : Prop} {x : AV} {R : AV → List (Nat × Blk) → Prop} : retGP σ (p, x) R = (p ∧ ∃ res, R x res ∧ (∀ p ∈ res, (100 ≤ p.1 ∧ p.1 < 1000000000000) ∧ σ.hp.heap p.1 = some p.2 ∧ p.2.isAr = true) ∧ x.kp (keepP res) = x) := rfl

theorem fcalls_intro {f : FuncId} {fn : Func} {code : Code} {n : Nat} {rs : List ResultVar} (hm : P.follows .mixedOrders = true) (hf : P.funcs[f]? = some fn) (hb : fn.body = some code) (hn : fn.ntmps = n) (hr : fn.results.toList = rs)
    (fz : List Nat) (hst : slotsOk n code = true) {args : List AV} {R : AV → List (Nat × Blk) → Prop}
    (hargs : args.length ≤ n) (hv : VC P fz code (entryS args []) (retG P rs R)) : FCalls P f args R := by
  subst hn; subst hr
  refine acalls_of_vcQ hm hf hb fz hst hargs (Q := retG P fn.results.toList R) (fun ex σ h => ?_) hv
  have key : retGP σ (resAV P σ fn.results.toList) R → (resAV P σ fn.results.toList).1 ∧ RetVC P [] σ (resAV P σ fn.results.toList).2 fun x _ res => R x res := fun h => by
    obtain ⟨h1, res, h2, h3, h4⟩ := h
    refine ⟨h1, .keep [] res rfl (fun p hp => (h3 p hp).1) (fun q hq => ?_) (by simpa using h4) h2⟩
    simp only [List.zip_nil_left, List.nil_append] at hq
    exact ⟨(h3 q hq).2.1, isAr_kp (h3 q hq).2.2 _⟩
  cases ex with
  | exit i => exact h
  | normal => exact key h
  | ret => exact key h

theorem CallVC.freshF {f : FuncId} {as args args' : List AV} {p : Prop} {l : List Nat} {R : AV → List (Nat × Blk) → Prop} {K : AV → AS → Prop} (base : Nat) (dr : Bool) (hc : FCalls P f args R) (hv : viewL P σ.hp as = some (p, args', l)) (he : args' = args) (hp : p) (hb : (100 ≤ base ∧ base < 1000000000000))
    (hk : ∀ x res, R x res → ((res.map Prod.fst).Nodup ∧ (∀ j, j < res.length → (σ.used (base + j) = false ∧ base + j < 1000000000000)) ∧ (dr = true ∨ l = [] ∨ (x.flatR = true ∧ res.all (fun p => p.2.flatR) = true))) ∧ K (x.back (fun _ => 0) base [] res) (σ.after (fun _ => 0) base dr l [] [] res)) : CallVC P f as σ K := by
  subst he
  refine .view hv hp base dr (ACalls.mono hc fun x _ res h => ?_) hb
  obtain ⟨⟨h1, h2, h3⟩, h4⟩ := hk x res h
  exact ⟨⟨h1, hb, h2, h3⟩, h4⟩

theorem after_new1 {base i : Nat} {b : Blk} (hi : (100 ≤ i ∧ i < 1000000000000)) (hb : b.isAr = true) {l : List Nat} : σ.after (fun _ => 0) base false l [] [] [(i, b)] = σ.new base b := by
  have hi' : ¬ (i < 100 ∨ 1000000000000 ≤ i) := by omega
  simp only [AS.after, AS.new, setL, resE, Bool.false_eq_true, if_false]
  congr 1
  · simp only [HP.set]
    congr 1
    funext j
    simp only [List.zip_nil_left, List.nil_append, List.map_cons, List.map_nil, lookH, renOf, posOf, upd, isAr_kp hb, isAr_ren hb, hi', if_false, if_true, Nat.add_zero]
    by_cases hj : j = base
    · simp [hj]
    · simp [hj]
  · funext j
    simp only [inNew, upd, List.length_cons, List.length_nil]
    by_cases hj : j = base
    · simp [hj]
    · have : ¬ (base ≤ j ∧ j < base + (0 + 1)) := by omega
      simp [hj, this]
theorem after_new3 {base i1 i2 i3 : Nat} {b1 b2 b3 : Blk} (h1 : (100 ≤ i1 ∧ i1 < 1000000000000)) (h2 : (100 ≤ i2 ∧ i2 < 1000000000000)) (h3 : (100 ≤ i3 ∧ i3 < 1000000000000)) (n12 : i1 ≠ i2) (n13 : i1 ≠ i3) (n23 : i2 ≠ i3) (c1 : b1.isAr = true) (c2 : b2.isAr = true) (c3 : b3.isAr = true) {l : List Nat} :
    σ.after (fun _ => 0) base false l [] [] [(i1, b1), (i2, b2), (i3, b3)] = ((σ.new base b1).new (base + 1) b2).new (base + 2) b3 := by
  have e1 : ¬ (i1 < 100 ∨ 1000000000000 ≤ i1) := by omega
  have e2 : ¬ (i2 < 100 ∨ 1000000000000 ≤ i2) := by omega
  have e3 : ¬ (i3 < 100 ∨ 1000000000000 ≤ i3) := by omega
  simp only [AS.after, AS.new, setL, resE, Bool.false_eq_true, if_false]
  congr 1
  · simp only [HP.set]
    congr 1
    funext j
    simp only [List.zip_nil_left, List.nil_append, List.map_cons, List.map_nil, lookH, renOf, posOf, upd, isAr_kp c1, isAr_ren c1, isAr_kp c2, isAr_ren c2, isAr_kp c3, isAr_ren c3, e1, e2, e3, n12.symm, n13.symm, n23.symm, if_false, if_true, Nat.add_zero]
    by_cases j1 : j = base
    · simp [j1]
    · by_cases j2 : j = base + 1
      · simp [j2]
      · by_cases j3 : j = base + 2
        · simp [j3]
        · simp [j1, j2, j3]
  · funext j
    simp only [inNew, upd, List.length_cons, List.length_nil]
    by_cases j1 : j = base
    · simp [j1]
    · by_cases j2 : j = base + 1
      · simp [j2]
      · by_cases j3 : j = base + 2
        · simp [j3]
        · have : ¬ (base ≤ j ∧ j < base + (0 + 1 + 1 + 1)) := by omega
          simp [j1, j2, j3, this]

/-- A function that is handed rows to write, and answers with a datum. -/
def LCalls (P : Program) (f : FuncId) (args : List AV) (hs : List (Nat × Blk)) (R : D → List Blk → Prop) : Prop := ACalls P f args hs fun x bs res => (∃ r, x = .d r ∧ R r bs ∧ ∀ b ∈ bs, b.isAr = true) ∧ res = []
def retLP (keys : List Nat) (σ : AS) (q : PA) (R : D → List Blk → Prop) : Prop :=
  q.1 ∧ ∃ r bs, q.2 = .d r ∧ R r bs ∧ keys.map σ.hp.heap = bs.map some ∧ ∀ b ∈ bs, b.isAr = true
def retL (P : Program) (keys : List Nat) (rs : List ResultVar) (R : D → List Blk → Prop) : Ex → AS → Prop
  | .exit _, _ => False
  | _, σ => retLP keys σ (resAV P σ rs) R
theorem retL_r {keys : List Nat} {rs : List ResultVar} {R : D → List Blk → Prop} : retL P keys rs R .ret σ = retLP keys σ (resAV P σ rs) R := rfl
theorem retL_n {keys : List Nat} {rs : List ResultVar} {R : D → List Blk → Prop} : retL P keys rs R .normal σ = retLP keys σ (resAV P σ rs) R := rfl
theorem retLP_is {keys : List Nat} {p : Prop} {x : AV} {R : D → List Blk → Prop} : retLP keys σ (p, x) R = (p ∧ ∃ r bs, x = .d r ∧ R r bs ∧ keys.map σ.hp.heap = bs.map some ∧ ∀ b ∈ bs, b.isAr = true) := rfl

theorem lcalls_intro {f : FuncId} {fn : Func} {code : Code} {n : Nat} {rs : List ResultVar} (hm : P.follows .mixedOrders = true) (hf : P.funcs[f]? = some fn) (hb : fn.body = some code) (hn : fn.ntmps = n) (hr : fn.results.toList = rs)
    (fz : List Nat) (hst : slotsOk n code = true) {args : List AV} {hs : List (Nat × Blk)} {R : D → List Blk → Prop}
    (hargs : args.length ≤ n) (hv : VC P fz code (entryS args hs) (retL P (hs.map Prod.fst) rs R)) : LCalls P f args hs R := by
  subst hn; subst hr
  refine acalls_of_vcQ hm hf hb fz hst hargs (Q := retL P (hs.map Prod.fst) fn.results.toList R) (fun ex σ h => ?_) hv
  have key : retLP (hs.map Prod.fst) σ (resAV P σ fn.results.toList) R → (resAV P σ fn.results.toList).1 ∧ RetVC P (hs.map Prod.fst) σ (resAV P σ fn.results.toList).2 fun x bs res => (∃ r, x = .d r ∧ R r bs ∧ ∀ b ∈ bs, b.isAr = true) ∧ res = [] := fun h => by
    obtain ⟨h1, r, bs, h2, h3, h4, h5⟩ := h
    have hl : bs.length = (hs.map Prod.fst).length := by have := congrArg List.length h4; simpa using this.symm
    refine ⟨h1, .keep bs [] hl (by simp) (fun q hq => ?_) (by rw [h2]; rfl) ⟨⟨r, h2, h3, h5⟩, rfl⟩⟩
    rw [List.append_nil] at hq
    obtain ⟨i, hi, he⟩ := List.mem_iff_getElem.1 hq
    have hi1 : i < (hs.map Prod.fst).length := by simp at hi ⊢; omega
    have hi2 : i < bs.length := by omega
    have e : q = ((hs.map Prod.fst)[i], bs[i]) := by rw [← he]; simp
    subst e
    have := congrArg (fun l => l[i]?) h4
    simp only [List.getElem?_map, List.getElem?_eq_getElem hi2, Option.map_some] at this
    rw [List.getElem?_eq_getElem (by simpa using hi1)] at this
    refine ⟨by simpa using this, isAr_kp (h5 _ (List.getElem_mem hi2)) _⟩
  cases ex with
  | exit i => exact h
  | normal => exact key h
  | ret => exact key h

theorem CallVC.lendA {f : FuncId} {as args : List AV} {hs : List (Nat × Blk)} {R : D → List Blk → Prop} {K : AV → AS → Prop} (g : Nat → Nat) (hc : LCalls P f args hs R) (has : as = args.map (AV.ren g)) (hg0 : ∀ q, q ∉ hs.map Prod.fst → g q = 0)
    (hhs : ∀ q blk, (q, blk) ∈ hs → (0 < q ∧ (q < 100 ∨ 1000000000000 ≤ q)) ∧ blk.isAr = true ∧ σ.hp.heap (g q) = some blk) (hnd : (hs.map Prod.fst).Nodup) (hginj : ∀ q q', q ∈ hs.map Prod.fst → q' ∈ hs.map Prod.fst → g q = g q' → q = q')
    (hk : ∀ r bs, bs.length = hs.length → R r bs → (∀ b ∈ bs, b.isAr = true) → K (.d r) (σ.after g 100 false [] (hs.map Prod.fst) bs [])) : CallVC P f as σ K := by
  intro c ρ w vals loc hr
  subst has
  refine (hr.call (args := args) (hs := hs) [] g 100 (by omega) (by simp) (fun i x y v ha hb hrr => ?_) hg0 (fun q blk hq => ?_) hnd hginj hc).mono fun e w' ⟨v, x, bs, res, he, hkk, hbl, hfin⟩ => ?_
  · have : y = x.ren g := by
      rw [List.getElem?_map, ha] at hb; simpa using hb.symm
    subst this
    exact hrr.unren g x rfl
  · obtain ⟨h1, h2, h3⟩ := hhs q blk hq
    exact ⟨h1, by simp, by rw [isAr_ren h2]; exact h3⟩
  · obtain ⟨⟨r, rfl, hR, hA⟩, rfl⟩ := hkk
    obtain ⟨loc', hr'⟩ := hfin ⟨by simp, by simp⟩ false (.inr (.inl rfl))
    refine ⟨v, _, _, loc', he, hk r bs hbl hR hA, ?_⟩
    have : (AV.d r).back g 100 (hs.map Prod.fst) [] = .d r := rfl
    rw [← this]
    exact hr'

theorem after_lend1 {i : Nat} {b : Blk} (hb : b.isAr = true) : σ.after (fun q => if q = 1 then i else 0) 100 false [] [1] [b] [] = σ.withHp (σ.hp.set i b) := by
  have h1 : (fun i => inNew 100 ([] : List (Nat × Blk)).length i || σ.used i) = σ.used := by
    funext i
    have : inNew 100 ([] : List (Nat × Blk)).length i = false := by simp [inNew]
    rw [this, Bool.false_or]
  simp only [AS.after, h1, AS.withHp]
  congr 1
  simp only [setL, HP.set, Bool.false_eq_true, if_false]
  congr 1
  funext j
  simp only [resE, List.zip_cons_cons, List.zip_nil_right, List.append_nil, List.map_cons, List.map_nil, lookH, renOf, upd, isAr_kp hb, isAr_ren hb]
  by_cases hj : j = i
  · simp [hj]
  · simp [hj]
theorem after_lend3 {i1 i2 i3 : Nat} {b1 b2 b3 : Blk} (n12 : i1 ≠ i2) (n13 : i1 ≠ i3) (n23 : i2 ≠ i3) (c1 : b1.isAr = true) (c2 : b2.isAr = true) (c3 : b3.isAr = true) :
    σ.after (fun q => if q = 1 then i1 else if q = 2 then i2 else if q = 3 then i3 else 0) 100 false [] [1, 2, 3] [b1, b2, b3] [] = σ.withHp (((σ.hp.set i1 b1).set i2 b2).set i3 b3) := by
  have h1 : (fun i => inNew 100 ([] : List (Nat × Blk)).length i || σ.used i) = σ.used := by
    funext i
    have : inNew 100 ([] : List (Nat × Blk)).length i = false := by simp [inNew]
    rw [this, Bool.false_or]
  simp only [AS.after, h1, AS.withHp]
  congr 1
  simp only [setL, HP.set, Bool.false_eq_true, if_false]
  congr 1
  funext j
  simp only [resE, List.zip_cons_cons, List.zip_nil_right, List.append_nil, List.map_cons, List.map_nil, lookH, renOf, upd, isAr_kp c1, isAr_ren c1, isAr_kp c2, isAr_ren c2, isAr_kp c3, isAr_ren c3]
  by_cases j1 : j = i1
  · simp [j1, n12, n13]
  · by_cases j2 : j = i2
    · simp [j2, n12.symm, n23]
    · by_cases j3 : j = i3
      · simp [j3, n13.symm, n23.symm]
      · simp [j1, j2, j3]

/-- A nil slice in a slot is taken as one of the frame's own. -/
theorem Wk.adoptSl (s k sz : Nat) (hs : σ.sl s = .nl) (hf : σ.free k) : Wk P σ ((σ.new k (.ar sz [])).put (some s) (.sl sz k 0 0)) := by
  intro c ρ w loc h
  have h2 := h.adopt k hf sz
  refine ⟨loc, fun t => ?_, h2.len, h2.vals, h2.heap, h2.inj, h2.own, h2.ext, h2.fix, h2.dom, h2.liveU⟩
  simp only [AS.put, upd]
  by_cases ht : t = s
  · subst ht; rw [if_pos rfl]
    have := h.slots t
    rw [hs] at this
    generalize ρ t = v at this ⊢
    cases this; exact .sl0 none sz k 0
  · rw [if_neg ht]; exact h2.slots t

def g1 (i : Nat) (q : Nat) : Nat := if q = 1 then i else 0
def g3 (i1 i2 i3 : Nat) (q : Nat) : Nat := if q = 1 then i1 else if q = 2 then i2 else if q = 3 then i3 else 0
theorem CallVC.lend1 {f : FuncId} {as args : List AV} {b : Blk} {R : D → List Blk → Prop} {K : AV → AS → Prop} (i : Nat) (hc : LCalls P f args [(1, b)] R) (has : as = args.map (AV.ren (g1 i))) (hb : b.isAr = true) (hh : σ.hp.heap i = some b)
    (hk : ∀ r b', R r [b'] → b'.isAr = true → K (.d r) (σ.withHp (σ.hp.set i b'))) : CallVC P f as σ K := by
  refine .lendA (g1 i) hc has (fun q hq => ?_) (fun q blk hq => ?_) (by simp) (fun q q' h h' _ => ?_) (fun r bs hl hR hA => ?_)
  · simp at hq; simp [g1, hq]
  · simp at hq; obtain ⟨rfl, rfl⟩ := hq; exact ⟨by omega, hb, by simpa [g1] using hh⟩
  · simp at h h'; rw [h, h']
  · match bs, hl, hR, hA with
    | [b'], _, hR, hA =>
      have := hA b' (by simp)
      exact (after_lend1 (σ := σ) (i := i) this) ▸ hk r b' hR this
theorem CallVC.lend3 {f : FuncId} {as args : List AV} {b1 b2 b3 : Blk} {R : D → List Blk → Prop} {K : AV → AS → Prop} (i1 i2 i3 : Nat) (n12 : i1 ≠ i2) (n13 : i1 ≠ i3) (n23 : i2 ≠ i3) (hc : LCalls P f args [(1, b1), (2, b2), (3, b3)] R) (has : as = args.map (AV.ren (g3 i1 i2 i3)))
    (hb : b1.isAr = true ∧ b2.isAr = true ∧ b3.isAr = true) (hh : σ.hp.heap i1 = some b1 ∧ σ.hp.heap i2 = some b2 ∧ σ.hp.heap i3 = some b3)
    (hk : ∀ r c1 c2 c3, R r [c1, c2, c3] → K (.d r) (σ.withHp (((σ.hp.set i1 c1).set i2 c2).set i3 c3))) : CallVC P f as σ K := by
  refine .lendA (g3 i1 i2 i3) hc has (fun q hq => ?_) (fun q blk hq => ?_) (by simp) (fun q q' h h' e => ?_) (fun r bs hl hR hA => ?_)
  · simp at hq; simp [g3, hq]
  · simp at hq
    rcases hq with ⟨rfl, rfl⟩ | ⟨rfl, rfl⟩ | ⟨rfl, rfl⟩
    · exact ⟨by omega, hb.1, by simpa [g3] using hh.1⟩
    · exact ⟨by omega, hb.2.1, by simpa [g3] using hh.2.1⟩
    · exact ⟨by omega, hb.2.2, by simpa [g3] using hh.2.2⟩
  · simp at h h'
    rcases h with rfl | rfl | rfl <;> rcases h' with rfl | rfl | rfl <;> simp [g3] at e <;> first | rfl | exact absurd e n12 | exact absurd e n13 | exact absurd e n23 | exact absurd e.symm n12 | exact absurd e.symm n13 | exact absurd e.symm n23
  · match bs, hl, hR, hA with
    | [c1, c2, c3], _, hR, hA =>
      have := after_lend3 (σ := σ) n12 n13 n23 (hA c1 (by simp)) (hA c2 (by simp)) (hA c3 (by simp))
      exact this ▸ hk r c1 c2 c3 hR

attribute [simp] Blk.isAr retG_r retG_n retGP_is retL_r retL_n retLP_is
end
end Go.Fw

/- Functions that are handed one block to write, by a pointer, and answer with a new row. -/
namespace Go.Fw
open Go

section
variable {P : Program} {fz : List Nat} {σ : AS} {Q : Ex → AS → Prop} {K : AS → Prop}

def QCalls (P : Program) (f : FuncId) (args : List AV) (b : List D) (R : Nat → List D → List D → Prop) : Prop :=
  ACalls P f (.ptr 1 0 :: args) [(1, .bx (b.map .d))] fun x bs res => ∃ id sz xs b', x = .sl sz id 0 xs.length ∧ bs = [.bx (b'.map .d)] ∧ res = [(id, .ar sz xs)] ∧ (100 ≤ id ∧ id < 1000000000000) ∧ R sz xs b'

theorem after_lendS (id i base sz : Nat) (b' xs : List D) (hid : id ≠ 0) (hi : (100 ≤ i ∧ i < 1000000000000)) (hne : id ≠ base) :
    σ.after (fun q => if q = 1 then id else 0) base false [] [1] [.bx (b'.map .d)] [(i, .ar sz xs)] = (σ.withHp (σ.hp.set id (.bx (b'.map .d)))).new base (.ar sz xs) := by
  have hi' : ¬ (i < 100 ∨ 1000000000000 ≤ i) := by omega
  have hi1 : ¬ (i = 1) := by omega
  simp only [AS.after, AS.new, AS.withHp, setL, resE, Bool.false_eq_true, if_false]
  congr 1
  · simp only [HP.set]
    congr 1
    funext j
    simp only [List.zip_cons_cons, List.zip_nil_right, List.cons_append, List.nil_append, List.map_cons, List.map_nil, lookH, renOf, posOf, upd, Blk.kp, Blk.ren, kp_ds, ren_ds, hi', if_false, if_true, Nat.add_zero]
    by_cases h1 : j = id
    · subst h1
      simp [hne]
    · by_cases h2 : j = base
      · subst h2; simp [Ne.symm hne]
      · simp [h1, h2]
  · funext j
    simp only [inNew, upd, List.length_cons, List.length_nil]
    by_cases hj : j = base
    · simp [hj]
    · have : ¬ (base ≤ j ∧ j < base + (0 + 1)) := by omega
      simp [hj, this]

theorem CallVC.lendS {f : FuncId} {id : Nat} {as args : List AV} {p : Prop} {b : List D} {R : Nat → List D → List D → Prop} {K : AV → AS → Prop} (base : Nat) (hc : QCalls P f args b R) (hh : σ.hp.heap id = some (.bx (b.map .d))) (hid : id ≠ 0)
    (hb : (100 ≤ base ∧ base < 1000000000000)) (hu : σ.used base = false) (hne : id ≠ base)
    (hv : viewL P σ.hp as = some (p, args, [])) (hp : p) (hk : ∀ sz xs b', R sz xs b' → K (.sl sz base 0 xs.length) ((σ.withHp (σ.hp.set id (.bx (b'.map .d)))).new base (.ar sz xs))) : CallVC P f (.ptr id 0 :: as) σ K := by
  intro c ρ w vals loc hr
  have hvals : vals.length = as.length + 1 := by rw [hr.len]; rfl
  obtain ⟨v0, vr, rfl⟩ : ∃ v0 vr, vals = v0 :: vr := by
    cases vals with
    | nil => simp at hvals
    | cons a b => exact ⟨a, b, rfl⟩
  let g : Nat → Nat := fun q => if q = 1 then id else 0
  obtain ⟨v1, v2⟩ := viewL_rep hr (fun q => loc (g q)) hv hp (l' := []) fun i hi => hi
  refine (hr.call (args := .ptr 1 0 :: args) (hs := [(1, .bx (b.map .d))]) [] g base hb (by simp [v1]) (fun i x y v ha hb hrr => ?_) (fun q hq => ?_) (fun q blk hq => ?_) (by simp) (fun q q' h1 h2 _ => ?_) hc).mono fun e w' ⟨v, x, bs, res, he, hkk, hbl, hfin⟩ => ?_
  · cases i with
    | zero =>
      simp only [List.getElem?_cons_zero, Option.some.injEq] at ha hb
      subst ha; subst hb
      cases hrr with | ptr hl => exact .ptr (by simpa [g] using hl)
    | succ i =>
      simp only [List.getElem?_cons_succ] at ha hb
      exact v2 i v y x hb ha hrr
  · simp only [List.map_cons, List.map_nil, List.mem_singleton] at hq
    simp [g, hq]
  · simp only [List.mem_singleton, Prod.mk.injEq] at hq
    obtain ⟨rfl, rfl⟩ := hq
    exact ⟨by omega, by simp, by simp [g, hh, Blk.ren, ren_ds]⟩
  · simp only [List.map_cons, List.map_nil, List.mem_singleton] at h1 h2
    rw [h1, h2]
  · obtain ⟨i, sz, xs, b', rfl, rfl, rfl, hi, hR⟩ := hkk
    obtain ⟨loc', hr'⟩ := hfin ⟨by simp, by simp [hu]; omega⟩ false (.inr (.inl rfl))
    refine ⟨v, _, _, loc', he, hk sz xs b' hR, ?_⟩
    rw [← after_lendS id i base sz b' xs hid hi hne]
    have hi' : ¬ (i < 100 ∨ 1000000000000 ≤ i) := by omega
    have hi1 : ¬ (i = 1) := by omega
    have : (AV.sl sz i 0 xs.length).back g base [1] [(i, .ar sz xs)] = .sl sz base 0 xs.length := by
      simp [AV.back, AV.kp, AV.ren, outE, renOf, posOf, hi']
    rw [← this]
    exact hr'

def retQQ (σ : AS) (q : PA) (R : Nat → List D → List D → Prop) : Prop := match q with
  | (p, .sl sz id off len) => ∃ b', selS p sz id off len (fun sz xs => R sz xs b') (σ.hp.heap id) ∧ σ.hp.heap 1 = some (.bx (b'.map .d))
  | _ => False
def retQR (P : Program) (rs : List ResultVar) (R : Nat → List D → List D → Prop) : Ex → AS → Prop
  | .exit _, _ => False
  | _, σ => retQQ σ (resAV P σ rs) R
theorem retQR_r {rs : List ResultVar} {R : Nat → List D → List D → Prop} : retQR P rs R .ret σ = retQQ σ (resAV P σ rs) R := rfl
theorem retQR_n {rs : List ResultVar} {R : Nat → List D → List D → Prop} : retQR P rs R .normal σ = retQQ σ (resAV P σ rs) R := rfl
theorem retQQ_is {p : Prop} {sz id off len : Nat} {R : Nat → List D → List D → Prop} : retQQ σ (p, .sl sz id off len) R = ∃ b', selS p sz id off len (fun sz xs => R sz xs b') (σ.hp.heap id) ∧ σ.hp.heap 1 = some (.bx (b'.map .d)) := rfl

theorem qcalls_intro {f : FuncId} {fn : Func} {code : Code} {n : Nat} {rs : List ResultVar} (hm : P.follows .mixedOrders = true) (hf : P.funcs[f]? = some fn) (hb : fn.body = some code) (hn : fn.ntmps = n) (hr : fn.results.toList = rs)
    (fz : List Nat) (hst : slotsOk n code = true) {args : List AV} {b : List D} {R : Nat → List D → List D → Prop}
    (hargs : args.length + 1 ≤ n) (hv : VC P fz code (entryS (.ptr 1 0 :: args) [(1, .bx (b.map .d))]) (retQR P rs R)) : QCalls P f args b R := by
  subst hn; subst hr
  refine acalls_of_vcQ hm hf hb fz hst (by simpa using hargs) (Q := retQR P fn.results.toList R) (fun ex σ h => ?_) hv
  have key : retQQ σ (resAV P σ fn.results.toList) R → (resAV P σ fn.results.toList).1 ∧ RetVC P [1] σ (resAV P σ fn.results.toList).2 fun x bs res => ∃ id sz xs b', x = .sl sz id 0 xs.length ∧ bs = [.bx (b'.map .d)] ∧ res = [(id, .ar sz xs)] ∧ (100 ≤ id ∧ id < 1000000000000) ∧ R sz xs b' := fun h => by
    generalize resAV P σ fn.results.toList = q at h ⊢
    unfold retQQ at h
    split at h
    · rename_i p sz id off len
      obtain ⟨b', h, h9⟩ := h
      unfold selS at h
      split at h
      · rename_i sz' xs hh
        obtain ⟨h1, rfl, h2, rfl, rfl, h4⟩ := h
        have hid1 : ¬ (id < 100 ∨ 1000000000000 ≤ id) := by omega
        refine ⟨h1, .keep [.bx (b'.map .d)] [(id, .ar sz xs)] rfl (by simp [h2]) (fun q hq => ?_) ?_ ⟨id, sz, xs, b', rfl, rfl, rfl, h2, h4⟩⟩
        · simp only [List.zip_cons_cons, List.zip_nil_right, List.cons_append, List.nil_append, List.mem_cons, List.not_mem_nil, or_false] at hq
          rcases hq with rfl | rfl
          · exact ⟨h9, by simp [Blk.kp, kp_ds]⟩
          · exact ⟨hh, by simp [Blk.kp]⟩
        · have : id ≠ 1 := by omega
          simp [AV.kp, keepP, lookH, hid1, this]
      · exact h.elim
    · exact h.elim
  cases ex with
  | exit i => exact h
  | normal => exact key h
  | ret => exact key h

theorem after_new2 {base i1 i2 : Nat} {b1 b2 : Blk} (h1 : (100 ≤ i1 ∧ i1 < 1000000000000)) (h2 : (100 ≤ i2 ∧ i2 < 1000000000000)) (n12 : i1 ≠ i2) (c1 : b1.isAr = true) (c2 : b2.isAr = true) {l : List Nat} :
    σ.after (fun _ => 0) base false l [] [] [(i1, b1), (i2, b2)] = (σ.new base b1).new (base + 1) b2 := by
  have e1 : ¬ (i1 < 100 ∨ 1000000000000 ≤ i1) := by omega
  have e2 : ¬ (i2 < 100 ∨ 1000000000000 ≤ i2) := by omega
  simp only [AS.after, AS.new, setL, resE, Bool.false_eq_true, if_false]
  congr 1
  · simp only [HP.set]
    congr 1
    funext j
    simp only [List.zip_nil_left, List.nil_append, List.map_cons, List.map_nil, lookH, renOf, posOf, upd, isAr_kp c1, isAr_ren c1, isAr_kp c2, isAr_ren c2, e1, e2, n12.symm, if_false, if_true, Nat.add_zero]
    by_cases j1 : j = base
    · simp [j1]
    · by_cases j2 : j = base + 1
      · simp [j2]
      · simp [j1, j2]
  · funext j
    simp only [inNew, upd, List.length_cons, List.length_nil]
    by_cases j1 : j = base
    · simp [j1]
    · by_cases j2 : j = base + 1
      · simp [j2]
      · have : ¬ (base ≤ j ∧ j < base + (0 + 1 + 1)) := by omega
        simp [j1, j2, this]

/-- What a cell of a block holds is forgotten. -/
theorem Wk.unkBx (id i : Nat) {cs : List AV} (hh : σ.hp.heap id = some (.bx cs)) : Wk P σ (σ.withHp (σ.hp.set id (.bx (cs.set i .unk)))) := by
  intro c ρ w loc h
  have hlive : Live σ.hp id := by unfold Live; rw [hh]; simp
  cases h.heap id _ hh with | @bx b cur T _ hl hb hz hcs =>
  refine ⟨loc, h.write id b 0 _ hlive hl (Shapes.refl w) ⟨rfl, rfl, rfl⟩ rfl (fun _ _ => rfl) fun hk => ?_⟩
  refine .bx hl hb (by simpa using hz) fun j v y hv hy => ?_
  rw [List.getElem?_set] at hy
  split at hy
  · split at hy
    · simp only [Option.some.injEq] at hy; subst hy; exact .unk _
    · cases hy
  · exact (hcs j v y hv hy).mono (fun b hb => hk b hb) (Shapes.refl w)
/-- A slice of the frame's own in a cell of a block is taken as a datum from now on. -/
theorem Wk.frzBx (id i : Nat) {cs : List AV} {x : AV} {p : Prop} {y : D} {l : List Nat} (hh : σ.hp.heap id = some (.bx cs)) (hi : cs[i]? = some x) (hd : toD σ.hp x = some (p, y, l)) (hp : p) (hl : id ∉ l) :
    Wk P σ (σ.withHp ((σ.hp.dropL l).set id (.bx (cs.set i (.d y))))) := by
  intro c ρ w loc h
  have h2 := RepL.dropL l h
  have hh2 : (σ.withHp (σ.hp.dropL l)).hp.heap id = some (.bx cs) := by
    show (σ.hp.dropL l).heap id = _
    rw [← hh]
    clear hd hh h h2
    generalize σ.hp = hp0
    induction l generalizing hp0 with
    | nil => rfl
    | cons a l ih =>
      simp only [List.mem_cons, not_or] at hl
      rw [HP.dropL, ih hl.2]
      simp [HP.drop, upd, hl.1]
  have hlive : Live (σ.withHp (σ.hp.dropL l)).hp id := by unfold Live; rw [hh2]; simp
  have hv0 : ∀ b cur T fz, loc id = some (b, 0) → w.heap[b]? = some (.cells cur T fz) → ∀ v, cur[i]? = some v → RepA P w (okOf c w σ.hp loc) loc v x → RepV w (okOf c w (σ.hp.dropL l) loc) v y := fun b cur T fz _ _ v _ hv => toD_rep h hd hp hv (l' := l) fun i hi => hi
  cases h.heap id _ hh with | @bx b cur T fz hl1 hb hz hcs =>
  cases h2.heap id _ hh2 with | @bx b2 cur2 T2 fz2 hl2 hb2 hz2 hcs2 =>
  have e : b2 = b := by rw [hl1] at hl2; simpa using hl2.symm
  subst e
  rw [hb] at hb2
  cases hb2
  refine ⟨loc, h2.write id b2 0 _ hlive hl1 (Shapes.refl w) ⟨rfl, rfl, rfl⟩ rfl (fun _ _ => rfl) fun hk => ?_⟩
  refine .bx hl1 hb (by simpa using hz) fun j v y' hv hy => ?_
  rw [List.getElem?_set] at hy
  split at hy
  · rename_i hij
    subst hij
    split at hy
    · simp only [Option.some.injEq] at hy; subst hy
      exact .d ((hv0 b2 _ _ _ hl1 hb v hv (hcs i v x hv hi)).mono fun b hb => hk b hb)
    · cases hy
  · exact (hcs2 j v y' hv hy).mono (fun b hb => hk b hb) (Shapes.refl w)

/-- What a slot points at is taken as data from now on. -/
theorem Wk.look (s : Nat) {p : Prop} {y : AV} {l : List Nat} (hx : viewB σ.hp (σ.sl s) = some (p, y, l)) (hp : p) : Wk P σ ((σ.withHp (σ.hp.dropL l)).put (some s) y) := by
  intro c ρ w loc h
  have hv := viewB_rep h hx hp (l' := l) (fun i hi => hi) (h.slots s) loc
  have h2 := RepL.dropL l h
  refine ⟨loc, fun t => ?_, h2.len, h2.vals, h2.heap, h2.inj, h2.own, h2.ext, h2.fix, h2.dom, h2.liveU⟩
  simp only [AS.put, AS.withHp, upd]
  by_cases ht : t = s
  · subst ht; rw [if_pos rfl]; exact hv
  · rw [if_neg ht]; exact h2.slots t
attribute [simp] retQR_r retQR_n retQQ_is
end
end Go.Fw
