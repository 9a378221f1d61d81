/- One operation, and a list of them: what is to be shown, and that it suffices. -/
import Derived.Test.YtfiipgebdcbknaaFwM
set_option linter.unusedSimpArgs false
set_option linter.unusedVariables false
namespace Go.Fw
open Go

/-- A call of a function: the result, and the state afterwards. -/
def CallVC (P : Program) (f : FuncId) (as : List AV) (σ : AS) (K : AV → AS → Prop) : Prop :=
  ∀ (c : Ctx) (ρ : Nat → Value) (w : World) (vals : List Value) (loc : Nat → Option (Nat × Nat)), RepL P c σ ρ w vals as loc →
    Calls P f vals.toArray w fun e w' => ∃ v x σ' loc', e = .returned v ∧ K x σ' ∧ RepL P c σ' ρ w' [v] [x] loc'

def stripsP : List AV → Prop
  | [] => True
  | x :: r => x.strip.1 ∧ stripsP r
def strips (l : List AV) : List AV := l.map fun x => x.strip.2

def dsets (off : Nat) : List D → List D → List D
  | [], cs => cs
  | x :: r, cs => dsets (off + 1) r (cs.set off x)

/-- An element after a store of 'n' cells into it. -/
def newElem (old : D) (off n sz : Nat) (dx : D) : D :=
  if n = sz ∧ off = 0 then dx else match old with
    | .agg cs => .agg (dsets off dx.cells cs)
    | x => x

def vcStore (P : Program) (σ : AS) (t : TypeId) (a x : AV) (K : AS → Prop) : Prop :=
  match a with
  | .ptr id off => match σ.hp.heap id, tI P t, cellsA x with
    | some (.bx cs), some (_, n, _), some ys => (ys.length = n ∧ ys.all AV.cell1 = true ∧ off + n ≤ cs.length) ∧ K { σ with hp := σ.hp.set id (.bx (setCells off ys cs)) }
    | _, _, _ => False
  | .ep sz id i off => match σ.hp.heap id, tI P t, toD σ.hp x with
    | some (.ar sz' zs), some (_, n, _), some (p, dx, l) =>
      (p ∧ id ∉ l ∧ sz = sz' ∧ i < zs.length ∧ 0 < n ∧ dx.fits n ∧ off + n ≤ sz) ∧ K { σ with hp := (σ.hp.dropL l).set id (.ar sz' (zs.set i (newElem (zs.getD i D.dflt) off n sz dx))) }
    | _, _, _ => False
  | _ => False

def vcAppend (P : Program) (σ : AS) (dst : Option Nat) (t t2 : TypeId) (s x : AV) (K : AS → Prop) : Prop :=
  match srcOf σ.hp x, tElem P t, tElem P t2 with
  | some (p, ys), some (es, by', e), some _ => match tI P e with
    | some (_, _, z) => match s with
      | .nl => match dst with
        | some k => (σ.free (100 * k) ∧ p ∧ z.length = es ∧ 0 < es ∧ (∀ y ∈ ys, y.fits es) ∧ ys.length ≤ 9223372036854775807 ∧ ys.length * by' ≤ 140737488355328) ∧ K ((σ.new (100 * k) (.ar es ys)).put dst (.sl es (100 * k) 0 ys.length))
        | none => False
      | .sl sz id off len => match σ.hp.heap id with
        | some (.ar sz' zs) => (100 ≤ id ∧ p ∧ sz = es ∧ sz' = es ∧ off + len = zs.length ∧ z.length = es ∧ 0 < es ∧ (∀ y ∈ ys, y.fits es) ∧ len + ys.length ≤ 9223372036854775807 ∧ (len + ys.length) * by' ≤ 140737488355328) ∧
            K ((σ.renew id (.ar es (zs.drop off ++ ys))).put dst (.sl es id 0 (len + ys.length)))
        | _ => False
      | _ => False
    | none => False
  | _, _, _ => False

/-- 'copy' into a row of one-cell elements of the frame's own. -/
def vcCopy (P : Program) (σ : AS) (dst : Option Nat) (t : TypeId) (s x : AV) (K : AS → Prop) : Prop :=
  match srcOf σ.hp x, tElem P t, s with
  | some (p, ys), some (es, _, _), .sl sz id off dl => match σ.hp.heap id with
    | some (.ar sz' zs) => (p ∧ es = 1 ∧ sz = 1 ∧ sz' = 1 ∧ off + dl ≤ zs.length ∧ (∀ y ∈ ys, y.isAgg = false) ∧ 0 < min ys.length dl) ∧
        K (({ σ with hp := σ.hp.set id (.ar 1 (zs.take off ++ ys.take (min ys.length dl) ++ zs.drop (off + min ys.length dl))) } : AS).put dst (.d (.int .i64 ((min ys.length dl : Nat) : Int))))
    | _ => False
  | _, _, _ => False

def vcCall (P : Program) (σ : AS) (f : AV) (as : List AV) (K : AV → AS → Prop) : Prop :=
  match f with
  | .fv (.func g) first caps => callable P g = true ∧ CallVC P g (first ++ as ++ caps) σ K
  | .clo S => match toDA σ.hp as with
    | some (p, ds, _) => p ∧ S ds fun y => K (.d y) σ
    | none => False
  | _ => False

def vcCallOp (P : Program) (σ : AS) (dst : Option Nat) : Callee → List Operand → List TypeId → (AS → Prop) → Prop
  | .builtin .append, [s, x], [t, t2], K => (σ.opd s).strip.1 ∧ (σ.opd x).strip.1 ∧ vcAppend P σ dst t t2 (σ.opd s).strip.2 (σ.opd x).strip.2 K
  | .value f, args, _, K => (σ.opd f).strip.1 ∧ stripsP (args.map σ.opd) ∧ vcCall P σ (σ.opd f).strip.2 (strips (args.map σ.opd)) fun x σ' => K (σ'.put dst x)
  | .builtin .copy, [s, x], [t, _], K => (σ.opd s).strip.1 ∧ (σ.opd x).strip.1 ∧ vcCopy P σ dst t (σ.opd s).strip.2 (σ.opd x).strip.2 K
  | _, _, _, _ => False

/-- The number of the block that a slot's operation makes: the numbers below 100 are the lent ones. -/
def bId (k : Nat) : Nat := if k = 0 then 77777777 else 100 * k
def vcMapPut (σ : AS) (q : Option (KK × IntKind)) (m k x : AV) (K : AS → Prop) : Prop :=
  match q, m, k, x with
  | some (kk, _), .mp id, .d kd, .d xd => match σ.hp.heap id with
    | some (.mb es) => (keyOk kk kd ∧ (∀ e ∈ es, keyOk kk e.1) ∧ mhas es kd = false) ∧ K { σ with hp := σ.hp.set id (.mb (es ++ [(kd, xd)])) }
    | _ => False
  | _, _, _, _ => False
def vcMapGet (σ : AS) (dst : Option Nat) (q : Option (KK × IntKind)) (m k : AV) (cok : Bool) (K : AS → Prop) : Prop :=
  match q, m, k with
  | some (kk, ik), .mp id, .d kd => match σ.hp.heap id with
    | some (.mb es) => (keyOk kk kd ∧ ∀ e ∈ es, keyOk kk e.1) ∧ K (σ.put dst (if cok then .tp [.d (mget ik es kd), .d (.bool (mhas es kd))] else .d (mget ik es kd)))
    | _ => False
  | _, _, _ => False
/-- The operations that make or write memory, and the calls. -/
def vcAct (P : Program) (fz : List Nat) (σ : AS) (dst : Option Nat) : Op → (AS → Prop) → Prop
  | .alloc t, K => match dst, tI P t with
    | some k, some (_, _, z) => σ.free (bId k) ∧ K ((σ.new (bId k) (.bx (z.map ofVal))).put (some k) (.ptr (bId k) 0))
    | _, _ => False
  | .box _ x, K => match dst, cellsA (σ.opd x).strip.2 with
    | some k, some ys => (σ.opd x).strip.1 ∧ if fz.contains k = true then K (σ.put (some k) (.dp ys)) else σ.free (100 * k) ∧ K ((σ.new (100 * k) (.bx ys)).put (some k) (.ptr (100 * k) 0))
    | _, _ => False
  | .store t a x, K => dst = none ∧ (σ.opd a).strip.1 ∧ (σ.opd x).strip.1 ∧ vcStore P σ t (σ.opd a).strip.2 (σ.opd x).strip.2 K
  | .buildSlice t len parts, K => match dst, tElem P t with
    | some k, some (es, _, e) => match tI P e, toDA σ.hp (strips (parts.toList.map fun p => σ.opd p.2)) with
      | some _, some (p, ys, l) => (σ.free (100 * k) ∧ stripsP (parts.toList.map fun p => σ.opd p.2) ∧ parts.toList.map Prod.fst = List.range len ∧ parts.size = len ∧ p ∧ (∀ y ∈ ys, y.fits es) ∧ 0 < es ∧ len * es ≤ 16777216) ∧
          K ((AS.new { σ with hp := σ.hp.dropL l } (100 * k) (.ar es ys)).put (some k) (.sl es (100 * k) 0 len))
      | _, _ => False
    | _, _ => False
  | .makeSlice t l cp, K => match dst, tElem P t, (σ.opd l).strip.2, (σ.opd cp).strip.2 with
    | some k, some (es, by', e), .d (.int _ m), .d (.int _ q) => match tI P e with
      | some (ag, _, z) => match zeroD ag z with
        | some zd => (σ.free (100 * k) ∧ (σ.opd l).strip.1 ∧ (σ.opd cp).strip.1 ∧ 0 ≤ m ∧ m ≤ q ∧ (by' : Int) * q ≤ 281474976710656 ∧ q ≤ 9223372036854775807 ∧ zd.fits es ∧ 0 < es) ∧
            K ((σ.new (100 * k) (.ar es (List.replicate m.toNat zd))).put (some k) (.sl es (100 * k) 0 m.toNat))
        | none => False
      | none => False
    | _, _, _, _ => False
  | .call cl, K => vcCallOp P σ dst cl.callee cl.args.toList cl.argTypes.toList K
  | .makeMap _ none, K => match dst with
    | some k => σ.free (100 * k) ∧ K ((σ.new (100 * k) (.mb [])).put (some k) (.mp (100 * k)))
    | none => False
  | .insert t m k x, K => dst = none ∧ ((σ.opd m).strip.1 ∧ (σ.opd k).strip.1 ∧ (σ.opd x).strip.1) ∧ vcMapPut σ (tMapI P t) (σ.opd m).strip.2 (σ.opd k).strip.2 (σ.opd x).strip.2 K
  | .mapUpdate t m k x, K => dst = none ∧ ((σ.opd m).strip.1 ∧ (σ.opd k).strip.1 ∧ (σ.opd x).strip.1) ∧ vcMapPut σ (tMapI P t) (σ.opd m).strip.2 (σ.opd k).strip.2 (σ.opd x).strip.2 K
  | .lookup t m k cok, K => ((σ.opd m).strip.1 ∧ (σ.opd k).strip.1) ∧ vcMapGet σ dst (tMapI P t) (σ.opd m).strip.2 (σ.opd k).strip.2 cok K
  | _, _ => False

/-- A guarded call whose value is known, and which leaves the state alone. -/
def vcFun (P : Program) (σ : AS) : Op → D → Prop
  | .call cl, r => match cl.callee with
    | .value f => (σ.opd f).strip.1 ∧ stripsP (cl.args.toList.map σ.opd) ∧ vcCall P σ (σ.opd f).strip.2 (strips (cl.args.toList.map σ.opd)) fun x σ' => x = .d r ∧ σ' = σ
    | _ => False
  | _, _ => False

def gBool (x : AV) (want : Bool) : Option Bool :=
  match x with
  | .d (.bool b) => some (b == want)
  | .op p (.d (.bool b)) => some (p && (b == want))
  | _ => none

def guardAV (σ : AS) (ops : Array Oper) (j : Nat) : AV := match (ops[j]?).bind (·.dst) with | some g => σ.sl g | none => .unk

def vcOp (P : Program) (fz : List Nat) (ops : Array Oper) (σ : AS) (o : Oper) (K : AS → Prop) : Prop :=
  match o.guard with
  | none => match fval P σ o.op with
    | some q => q.1 ∧ K (σ.put o.dst q.2)
    | none => vcAct P fz σ o.dst o.op K
  | some (j, want) => match gBool (guardAV σ ops j) want with
    | some g => match fval P σ o.op with
      | some q => (g = true → q.1) ∧ K (σ.put o.dst (mkOp g q.2))
      | none => ((g = true → vcAct P fz σ o.dst o.op K) ∧ (g = false → K (σ.put o.dst .unk))) ∨ ∃ r, (g = true → vcFun P σ o.op r) ∧ K (σ.put o.dst (.op g (.d r)))
    | none => False

def vcOps (P : Program) (fz : List Nat) (ops : Array Oper) : List Oper → AS → (AS → Prop) → Prop
  | [], σ, K => K σ
  | o :: r, σ, K => vcOp P fz ops σ o fun σ' => vcOps P fz ops r σ' K

section
variable {P : Program} {c : Ctx} {σ : AS} {ρ : Nat → Value} {w : World} {loc : Nat → Option (Nat × Nat)}

theorem RepL.optRep (h : RepL P c σ ρ w [] [] loc) (x : Option Operand) (hs : (stO (x.map σ.opd)).1) : RepO P w (okOf c w σ.hp loc) loc (x.map (evalR ρ)) (stO (x.map σ.opd)).2 := by
  cases x with
  | none => trivial
  | some x => exact (h.opd x).strip hs

theorem RepL.fval (h : RepL P c σ ρ w [] [] loc) (o : Oper) {q : PA} (hq : Fw.fval P σ o.op = some q) (hp : q.1) :
    ∃ v, (execOp (evalR ρ) o).run P w = .ok (.value v) w ∧ RepA P w (okOf c w σ.hp loc) loc v q.2 := by
  obtain ⟨dst, op, type, pos, aft, guard⟩ := o
  simp only at hq
  unfold Fw.fval at hq
  split at hq <;> first | (cases hq; done) | skip
  all_goals first | (simp only [Option.some.injEq] at hq; subst hq; simp only [execOp]) | simp only [execOp]
  · rename_i x; exact ⟨_, rfl, h.opd x⟩
  · rename_i x; exact ⟨_, rfl, h.opd x⟩
  · rename_i x a b
    obtain ⟨y, hy, hr⟩ := s_pick hp (h.opd x) (h.opd a) (h.opd b)
    exact ⟨_, by simp only [Sem.run_bind, hy, asBool, Sem.run_pure, Result.andThen_ok], hr⟩
  · rename_i bop t x y ty
    obtain ⟨v, hv, hr⟩ := s_bin (w := w) (op := bop) (x := x) (y := y) hp.2.2 ((h.opd x).strip hp.1) ((h.opd y).strip hp.2.1)
    exact ⟨v, by rw [Sem.run_bind, hv]; rfl, hr⟩
  · rename_i uop t x
    obtain ⟨v, hv, hr⟩ := s_un (w := w) hp.2 ((h.opd x).strip hp.1)
    exact ⟨v, by rw [Sem.run_bind, hv]; rfl, hr⟩
  · rename_i s t x
    have hx := (h.opd x).strip hp.1
    have hq := hp.2
    simp only [st1] at hq ⊢
    generalize (σ.opd x).strip.2 = y at hx hq ⊢
    have key : ∃ v, (convert s t (evalR ρ x)).run P w = .ok v w ∧ RepA P w (okOf c w σ.hp loc) loc v (fConvX P σ.hp s t y).2 := by
      unfold fConvX at hq ⊢
      split at hq
      · exact s_conv (w := w) hq hx
      · exact h.convB hq hx
      · exact h.convB hq hx
      · exact h.convB hq hx
      · exact hq.elim
    obtain ⟨v, hv, hr⟩ := key
    exact ⟨v, by rw [Sem.run_bind, hv]; rfl, hr⟩
  · rename_i t x
    obtain ⟨v, hv, hr⟩ := h.load hp.2 ((h.opd x).strip hp.1)
    exact ⟨v, by rw [Sem.run_bind, hv]; rfl, hr⟩
  · rename_i t x f
    obtain ⟨v, hv, hr⟩ := s_field (w := w) hp.2 ((h.opd x).strip hp.1)
    exact ⟨v, by rw [Sem.run_bind, hv]; rfl, hr⟩
  · rename_i t x i
    obtain ⟨v, hv, hr⟩ := s_idx (w := w) hp.2.2 ((h.opd x).strip hp.1) ((h.opd i).strip hp.2.1)
    exact ⟨v, by rw [Sem.run_bind, hv]; rfl, hr⟩
  · rename_i t x i
    obtain ⟨v, hv, hr⟩ := s_index (w := w) hp.2.2 ((h.opd x).strip hp.1) ((h.opd i).strip hp.2.1)
    exact ⟨v, by rw [Sem.run_bind, hv]; rfl, hr⟩
  · rename_i t x lo hi
    obtain ⟨p1, p2, p3, p4⟩ := hp
    obtain ⟨v, hv, hr⟩ := s_slice (w := w) p4 ((h.opd x).strip p1) (h.optRep lo p2) (h.optRep hi p3)
    exact ⟨v, by rw [Option.map_none, Sem.run_bind, hv]; rfl, hr⟩
  · rename_i x i
    obtain ⟨v, hv, hr⟩ := s_extract (w := w) hp.2 ((h.opd x).strip hp.1)
    exact ⟨v, by rw [Sem.run_bind, hv]; rfl, hr⟩
  · rename_i x
    obtain ⟨hr, a, ha⟩ := s_nil hp.2 ((h.opd x).strip hp.1)
    exact ⟨.pointer (some a), by rw [ha]; rfl, by rw [← ha]; exact hr⟩
  · rename_i fn first caps
    refine ⟨_, rfl, .fv (by simp) (by simp) (fun i v y hv hy => ?_) (fun i v y hv hy => ?_)⟩
    · simp only [Array.getElem?_map, Option.map_eq_some_iff, List.getElem?_map, Array.getElem?_toList] at hv hy
      obtain ⟨x, hx, rfl⟩ := hv
      obtain ⟨x', hx', rfl⟩ := hy
      rw [hx] at hx'; simp only [Option.some.injEq] at hx'; subst hx'; exact h.opd x
    · simp only [Array.getElem?_map, Option.map_eq_some_iff, List.getElem?_map, Array.getElem?_toList] at hv hy
      obtain ⟨x, hx, rfl⟩ := hv
      obtain ⟨x', hx', rfl⟩ := hy
      rw [hx] at hx'; simp only [Option.some.injEq] at hx'; subst hx'; exact h.opd x
  · rename_i t parts
    obtain ⟨v, hv, hr⟩ := s_build (P := P) (w := w) (loc := loc) (ok := okOf c w σ.hp loc) (t := t) (parts := parts.toList.map fun p => (p.1, σ.opd p.2)) (vals := parts.toList.map fun p => (p.1, evalR ρ p.2)) (by simp)
      (fun k p q h1 h2 => by
        simp only [List.getElem?_map, Option.map_eq_some_iff] at h1 h2
        obtain ⟨a, ha, rfl⟩ := h1
        obtain ⟨b, hb, rfl⟩ := h2
        rw [ha] at hb; simp only [Option.some.injEq] at hb; subst hb
        exact ⟨rfl, h.opd _⟩) hp
    have he : (parts.toList.map fun p => (p.1, evalR ρ p.2)).toArray = parts.map fun p => (p.1, evalR ρ p.2) := by
      apply Array.ext'; simp
    rw [he] at hv
    exact ⟨v, by rw [Sem.run_bind, hv]; rfl, hr⟩
  · rename_i cl
    obtain ⟨callee, args, ats⟩ := cl
    simp only at hq ⊢
    obtain ⟨args, rfl⟩ : ∃ l : List Operand, args = l.toArray := ⟨args.toList, by simp⟩
    obtain ⟨ats, rfl⟩ : ∃ l : List TypeId, ats = l.toArray := ⟨ats.toList, by simp⟩
    simp only at hq
    unfold fCall at hq
    split at hq <;> first | (cases hq; done) | skip
    all_goals (simp only [Option.some.injEq] at hq; subst hq)
    · rename_i x t
      obtain ⟨v, hv, hr⟩ := s_len (w := w) (ty := type) hp.2 ((h.opd x).strip hp.1)
      refine ⟨v, ?_, hr⟩
      simp only [resolve, invoke, builtin, Sem.run_bind, Sem.run_pure, Result.andThen_ok, List.map_toArray, List.map_cons, List.map_nil, hv]
    · rename_i x y
      have hx := (h.opd x).strip hp.1
      have hy := (h.opd y).strip hp.2.1
      have hm := hp.2.2
      simp only [st2] at hm ⊢
      unfold fMin at hm ⊢
      split at hm
      · rename_i k a k' b e1 e2
        rw [e1] at hx; rw [e2] at hy
        refine ⟨.int k (min a b), ?_, .int _ _⟩
        simp only [resolve, invoke, builtin, Sem.run_bind, Sem.run_pure, Result.andThen_ok, List.map_toArray, List.map_cons, List.map_nil, hx.inv_int, hy.inv_int, Builtin.min_, List.foldlM, Builtin.min2]
        congr 3
        rw [Int.min_def]
        split <;> split <;> omega
      · exact hm.elim
    · rename_i x y
      have hx := (h.opd x).strip hp.1
      have hy := (h.opd y).strip hp.2.1
      have hm := hp.2.2
      simp only [st2] at hm ⊢
      unfold fMax at hm ⊢
      split at hm
      · rename_i k a k' b e1 e2
        rw [e1] at hx; rw [e2] at hy
        refine ⟨.int k (max a b), ?_, .int _ _⟩
        simp only [resolve, invoke, builtin, Sem.run_bind, Sem.run_pure, Result.andThen_ok, List.map_toArray, List.map_cons, List.map_nil, hx.inv_int, hy.inv_int, Builtin.max_, List.foldlM, Builtin.max2]
        congr 3
        rw [Int.max_def]
        split <;> split <;> omega
      · exact hm.elim

end
end Go.Fw
