/- How the conditions are worked out, step by step; contracts whose result is a datum. -/
import Derived.Test.YtfiipgebdcbknaaFwR
set_option linter.unusedSimpArgs false
set_option linter.unusedVariables false
namespace Go.Fw
open Go

section
variable {P : Program} {fz : List Nat} {σ : AS} {Q : Ex → AS → Prop} {K : AS → Prop} {ops : Array Oper} {r : List Oper} {n : AS → Prop}

/-- Continuations, named: they are worked out only where a state is at hand. -/
def kVC (P : Program) (fz : List Nat) (c : Code) (Q : Ex → AS → Prop) (σ : AS) : Prop := VC P fz c σ Q
def kOps (P : Program) (fz : List Nat) (ops : Array Oper) (r : List Oper) (K : AS → Prop) (σ : AS) : Prop := vcOps P fz ops r σ K
def kPut (dst : Option Nat) (K : AS → Prop) (x : AV) (σ : AS) : Prop := K (σ.put dst x)
def kD (K : AV → AS → Prop) (σ : AS) (y : D) : Prop := K (.d y) σ
def kSched (P : Program) (fz : List Nat) (ops : Array Oper) (r : Sched) (K : AS → Prop) (σ : AS) : Prop := vcSched P fz ops r σ K
def kChk (P : Program) (fz : List Nat) (ops : Array Oper) (chk : List Nat) (r : Sched) (K : AS → Prop) (σ : AS) : Prop := chkAll P ops σ chk ∧ vcSched P fz ops r σ K
theorem kSched_ap {st : Sched} : kSched P fz ops st K σ = vcSched P fz ops st σ K := rfl
theorem kChk_ap {chk : List Nat} {st : Sched} : kChk P fz ops chk st K σ = (chkAll P ops σ chk ∧ vcSched P fz ops st σ K) := rfl
theorem kVC_ap {c : Code} : kVC P fz c Q σ = VC P fz c σ Q := rfl
theorem kOps_ap : kOps P fz ops r K σ = vcOps P fz ops r σ K := rfl
theorem kPut_ap {dst : Option Nat} {x : AV} : kPut dst K x σ = K (σ.put dst x) := rfl
theorem kD_ap {K : AV → AS → Prop} {y : D} : kD K σ y = K (.d y) σ := rfl

theorem VC_skip : VC P fz .skip σ Q = Q .normal σ := rfl
theorem VC_ret : VC P fz .ret σ Q = Q .ret σ := rfl
theorem VC_exit {i : Nat} : VC P fz (.exit i) σ Q = Q (.exit i) σ := rfl
theorem VC_seq {a b : Code} : VC P fz (.seq a b) σ Q = VC P fz a σ (seqQ (kVC P fz b Q) Q) := rfl
theorem VC_block {a : Code} {i : Nat} : VC P fz (.block i a) σ Q = VC P fz a σ (blockQ i Q) := rfl
theorem VC_cond {c : Operand} {a b : Code} : VC P fz (.cond c a b) σ Q = condVC (σ.opd c) (VC P fz a σ Q) (VC P fz b σ Q) := rfl
theorem VC_region {i : Nat} : VC P fz (.region i ops false) σ Q = vcOps P fz ops ops.toList σ (Q .normal) := rfl
theorem VC_any {i : Nat} : VC P fz (.region i ops true) σ Q = AnyVC P fz ops σ (Q .normal) := rfl
theorem VC_loop {c : Code} : VC P fz (.loop c) σ Q = LoopVC P (VC P fz c) σ Q := rfl
theorem seqQ_n : seqQ n Q .normal σ = n σ := rfl
theorem seqQ_e {i : Nat} : seqQ n Q (.exit i) σ = Q (.exit i) σ := rfl
theorem seqQ_r : seqQ n Q .ret σ = Q .ret σ := rfl
theorem blockQ_n {i : Nat} : blockQ i Q .normal σ = Q .normal σ := rfl
theorem blockQ_e {i j : Nat} : blockQ i Q (.exit j) σ = if j = i then Q .normal σ else Q (.exit j) σ := rfl
theorem blockQ_r {i : Nat} : blockQ i Q .ret σ = Q .ret σ := rfl
theorem loopQ_n {G : Type} {I : G → AS} {μ : G → Nat} {g : G} : loopQ P I μ g Q .normal σ = ∃ g', Wk P σ (I g') ∧ μ g' < μ g := rfl
theorem loopQ_e {G : Type} {I : G → AS} {μ : G → Nat} {g : G} {i : Nat} : loopQ P I μ g Q (.exit i) σ = Q (.exit i) σ := rfl
theorem loopQ_r {G : Type} {I : G → AS} {μ : G → Nat} {g : G} : loopQ P I μ g Q .ret σ = Q .ret σ := rfl
theorem vcOps_nil : vcOps P fz ops [] σ K = K σ := rfl

/-- One operation whose value is 'q', without guard, and with one. -/
def vcSel (P : Program) (fz : List Nat) (σ : AS) (dst : Option Nat) (op : Op) (q : Option PA) (K : AS → Prop) : Prop :=
  match q with
  | some (p, x) => p ∧ K (σ.put dst x)
  | none => vcAct P fz σ dst op K
/-- A guarded operation that is not only a value. -/
def vcSelC (P : Program) (fz : List Nat) (σ : AS) (dst : Option Nat) (op : Op) (g : Bool) (K : AS → Prop) : Prop :=
  ((g = true → vcAct P fz σ dst op K) ∧ (g = false → K (σ.put dst .unk))) ∨ ∃ r, (g = true → vcFun P σ op r) ∧ K (σ.put dst (.op g (.d r)))
def vcSelG (P : Program) (fz : List Nat) (σ : AS) (dst : Option Nat) (op : Op) (g : Option Bool) (q : Option PA) (K : AS → Prop) : Prop :=
  match g with
  | some g => match q with
      | some (p, x) => (g = true → p) ∧ K (σ.put dst (mkOp g x))
      | none => vcSelC P fz σ dst op g K
  | none => False

theorem vcOps_cons {dst : Option Nat} {op : Op} {ty : TypeId} {pos : String} {aft : Array Edge} : vcOps P fz ops (⟨dst, op, ty, pos, aft, none⟩ :: r) σ K = vcSel P fz σ dst op (fval P σ op) (kOps P fz ops r K) := by
  show vcOp P fz ops σ _ (kOps P fz ops r K) = _
  simp only [vcOp, vcSel]
  cases fval P σ op <;> rfl
theorem vcOps_consG {dst : Option Nat} {op : Op} {ty : TypeId} {pos : String} {aft : Array Edge} {j : Nat} {b : Bool} : vcOps P fz ops (⟨dst, op, ty, pos, aft, some (j, b)⟩ :: r) σ K = vcSelG P fz σ dst op (gBool (guardAV σ ops j) b) (fval P σ op) (kOps P fz ops r K) := by
  show vcOp P fz ops σ _ (kOps P fz ops r K) = _
  simp only [vcOp, vcSelG, vcSelC]
  cases gBool (guardAV σ ops j) b with
  | none => rfl
  | some g => cases fval P σ op <;> rfl

theorem vcSel_some {dst : Option Nat} {op : Op} {p : Prop} {x : AV} : vcSel P fz σ dst op (some (p, x)) K = (p ∧ K (σ.put dst x)) := rfl
theorem vcSel_none {dst : Option Nat} {op : Op} : vcSel P fz σ dst op none K = vcAct P fz σ dst op K := rfl
theorem vcSelG_some {dst : Option Nat} {op : Op} {p : Prop} {x : AV} {g : Bool} : vcSelG P fz σ dst op (some g) (some (p, x)) K = ((g = true → p) ∧ K (σ.put dst (mkOp g x))) := rfl
theorem vcSelG_none {dst : Option Nat} {op : Op} {g : Bool} : vcSelG P fz σ dst op (some g) none K = vcSelC P fz σ dst op g K := rfl
theorem condVC_b {p : Bool} {a b : Prop} : condVC (.d (.bool p)) a b = ((p = true → a) ∧ (p = false → b)) := rfl
theorem condVC_t {a b : Prop} : condVC (.d (.bool true)) a b = a := by simp [condVC]
theorem condVC_f {a b : Prop} : condVC (.d (.bool false)) a b = b := by simp [condVC]

def selAlloc (σ : AS) (dst : Option Nat) (q : Option (Bool × Nat × List Value)) (K : AS → Prop) : Prop :=
  match dst, q with
  | some k, some (_, _, z) => σ.free (bId k) ∧ K ((σ.new (bId k) (.bx (z.map ofVal))).put (some k) (.ptr (bId k) 0))
  | _, _ => False
theorem act_alloc {dst : Option Nat} {t : TypeId} : vcAct P fz σ dst (.alloc t) K = selAlloc σ dst (tI P t) K := rfl
theorem selAlloc_some {k : Nat} {b : Bool} {n : Nat} {z : List Value} (hk : k ≠ 0) : selAlloc σ (some k) (some (b, n, z)) K = (σ.free (100 * k) ∧ K ((σ.new (100 * k) (.bx (z.map ofVal))).put (some k) (.ptr (100 * k) 0))) := by
  simp only [selAlloc, bId, if_neg hk]
theorem selAlloc_zero {b : Bool} {n : Nat} {z : List Value} : selAlloc σ (some 0) (some (b, n, z)) K = (σ.free 77777777 ∧ K ((σ.new 77777777 (.bx (z.map ofVal))).put (some 0) (.ptr 77777777 0))) := rfl

def selBox (σ : AS) (k : Nat) (f : Bool) (p : Prop) (q : Option (List AV)) (K : AS → Prop) : Prop :=
  match q with
  | some ys => p ∧ if f = true then K (σ.put (some k) (.dp ys)) else σ.free (100 * k) ∧ K ((σ.new (100 * k) (.bx ys)).put (some k) (.ptr (100 * k) 0))
  | none => False
theorem act_box {k : Nat} {t : TypeId} {x : Operand} : vcAct P fz σ (some k) (.box t x) K = selBox σ k (fz.contains k) (σ.opd x).strip.1 (cellsA (σ.opd x).strip.2) K := by
  simp only [vcAct, selBox]
  cases cellsA (σ.opd x).strip.2 <;> rfl
theorem selBox_t {k : Nat} {p : Prop} {ys : List AV} : selBox σ k true p (some ys) K = (p ∧ K (σ.put (some k) (.dp ys))) := rfl
theorem selBox_f {k : Nat} {p : Prop} {ys : List AV} : selBox σ k false p (some ys) K = (p ∧ σ.free (100 * k) ∧ K ((σ.new (100 * k) (.bx ys)).put (some k) (.ptr (100 * k) 0))) := rfl

theorem act_store {t : TypeId} {a x : Operand} : vcAct P fz σ none (.store t a x) K = ((σ.opd a).strip.1 ∧ (σ.opd x).strip.1 ∧ vcStore P σ t (σ.opd a).strip.2 (σ.opd x).strip.2 K) := by simp only [vcAct, true_and]
def AS.withHp (σ : AS) (h : HP) : AS := { σ with hp := h }
theorem withHp_sl {h : HP} {s : Nat} : (σ.withHp h).sl s = σ.sl s := rfl
theorem withHp_hp {h : HP} : (σ.withHp h).hp = h := rfl
theorem withHp_used {h : HP} : (σ.withHp h).used = σ.used := rfl
theorem new_sl {k : Nat} {b : Blk} {s : Nat} : (σ.new k b).sl s = σ.sl s := rfl
theorem new_hp {k : Nat} {b : Blk} : (σ.new k b).hp = σ.hp.set k b := rfl
theorem new_used {k i : Nat} {b : Blk} : (σ.new k b).used i = if i = k then true else σ.used i := rfl
theorem renew_sl {k : Nat} {b : Blk} {s : Nat} : (σ.renew k b).sl s = (σ.sl s).kill k := rfl
theorem renew_hp {k : Nat} {b : Blk} : (σ.renew k b).hp = (σ.hp.kill k).set k b := rfl
theorem renew_used {k : Nat} {b : Blk} : (σ.renew k b).used = σ.used := rfl
theorem set_heap {h : HP} {k i : Nat} {b : Blk} : (h.set k b).heap i = if i = k then some b else h.heap i := rfl
theorem drop_heap {h : HP} {k i : Nat} : (h.drop k).heap i = if i = k then none else h.heap i := rfl
theorem kill_heap {h : HP} {k i : Nat} : (h.kill k).heap i = if i = k then none else (h.heap i).map (Blk.kill k) := rfl
theorem hpOf_heap {h : List (Nat × Blk)} {i : Nat} : (hpOf h).heap i = lookH h i := rfl
theorem mkS_used {slots : List (Nat × AV)} {heap : List (Nat × Blk)} {used : List Nat} {i : Nat} : (mkS slots heap used).used i = (decide (i < 100) || used.contains i) := rfl
theorem entry_used {args : List AV} {hs : List (Nat × Blk)} {i : Nat} : (entryS args hs).used i = (decide (i < 100) || (lookH hs i).isSome) := rfl
def selStB (σ : AS) (id off : Nat) (h : Option Blk) (q : Option (Bool × Nat × List Value)) (c : Option (List AV)) (K : AS → Prop) : Prop :=
  match h, q, c with
  | some (.bx cs), some (_, n, _), some ys => (ys.length = n ∧ ys.all AV.cell1 = true ∧ off + n ≤ cs.length) ∧ K { σ with hp := σ.hp.set id (.bx (setCells off ys cs)) }
  | _, _, _ => False
theorem store_ptr {t : TypeId} {id off : Nat} {x : AV} : vcStore P σ t (.ptr id off) x K = selStB σ id off (σ.hp.heap id) (tI P t) (cellsA x) K := rfl
theorem selStB_some {id off n : Nat} {cs ys : List AV} {b : Bool} {z : List Value} : selStB σ id off (some (.bx cs)) (some (b, n, z)) (some ys) K =
    ((ys.length = n ∧ ys.all AV.cell1 = true ∧ off + n ≤ cs.length) ∧ K (σ.withHp (σ.hp.set id (.bx (setCells off ys cs))))) := rfl
def selStE (σ : AS) (sz id i off : Nat) (h : Option Blk) (q : Option (Bool × Nat × List Value)) (c : Option (Prop × D × List Nat)) (K : AS → Prop) : Prop :=
  match h, q, c with
  | some (.ar sz' zs), some (_, n, _), some (p, dx, l) =>
      (p ∧ id ∉ l ∧ sz = sz' ∧ i < zs.length ∧ 0 < n ∧ dx.fits n ∧ off + n ≤ sz) ∧ K { σ with hp := (σ.hp.dropL l).set id (.ar sz' (zs.set i (newElem (zs.getD i D.dflt) off n sz dx))) }
  | _, _, _ => False
theorem store_ep {t : TypeId} {sz id i off : Nat} {x : AV} : vcStore P σ t (.ep sz id i off) x K = selStE σ sz id i off (σ.hp.heap id) (tI P t) (toD σ.hp x) K := rfl
theorem selStE_some {sz id i off n sz' : Nat} {zs : List D} {b : Bool} {z : List Value} {p : Prop} {dx : D} {l : List Nat} : selStE σ sz id i off (some (.ar sz' zs)) (some (b, n, z)) (some (p, dx, l)) K =
    ((p ∧ id ∉ l ∧ sz = sz' ∧ i < zs.length ∧ 0 < n ∧ dx.fits n ∧ off + n ≤ sz) ∧ K (σ.withHp ((σ.hp.dropL l).set id (.ar sz' (zs.set i (newElem (zs.getD i D.dflt) off n sz dx)))))) := rfl

theorem act_makeMap {k : Nat} {t : TypeId} : vcAct P fz σ (some k) (.makeMap t none) K = (σ.free (100 * k) ∧ K ((σ.new (100 * k) (.mb [])).put (some k) (.mp (100 * k)))) := rfl
def selMp (σ : AS) (kk : KK) (id : Nat) (kd xd : D) (h : Option Blk) (K : AS → Prop) : Prop :=
  match h with
  | some (.mb es) => (keyOk kk kd ∧ (∀ e ∈ es, keyOk kk e.1) ∧ mhas es kd = false) ∧ K (σ.withHp (σ.hp.set id (.mb (es ++ [(kd, xd)]))))
  | _ => False
theorem act_insert {t : TypeId} {m k x : Operand} : vcAct P fz σ none (.insert t m k x) K = (((σ.opd m).strip.1 ∧ (σ.opd k).strip.1 ∧ (σ.opd x).strip.1) ∧ vcMapPut σ (tMapI P t) (σ.opd m).strip.2 (σ.opd k).strip.2 (σ.opd x).strip.2 K) := by simp only [vcAct, true_and]
theorem act_mapUpdate {t : TypeId} {m k x : Operand} : vcAct P fz σ none (.mapUpdate t m k x) K = (((σ.opd m).strip.1 ∧ (σ.opd k).strip.1 ∧ (σ.opd x).strip.1) ∧ vcMapPut σ (tMapI P t) (σ.opd m).strip.2 (σ.opd k).strip.2 (σ.opd x).strip.2 K) := by simp only [vcAct, true_and]
theorem mapPut_is {kk : KK} {ik : IntKind} {id : Nat} {kd xd : D} : vcMapPut σ (some (kk, ik)) (.mp id) (.d kd) (.d xd) K = selMp σ kk id kd xd (σ.hp.heap id) K := rfl
theorem selMp_some {kk : KK} {id : Nat} {kd xd : D} {es : List (D × D)} : selMp σ kk id kd xd (some (.mb es)) K = ((keyOk kk kd ∧ (∀ e ∈ es, keyOk kk e.1) ∧ mhas es kd = false) ∧ K (σ.withHp (σ.hp.set id (.mb (es ++ [(kd, xd)]))))) := rfl
def selMg (σ : AS) (dst : Option Nat) (kk : KK) (ik : IntKind) (kd : D) (cok : Bool) (h : Option Blk) (K : AS → Prop) : Prop :=
  match h with
  | some (.mb es) => (keyOk kk kd ∧ ∀ e ∈ es, keyOk kk e.1) ∧ K (σ.put dst (if cok then .tp [.d (mget ik es kd), .d (.bool (mhas es kd))] else .d (mget ik es kd)))
  | _ => False
theorem act_lookup {dst : Option Nat} {t : TypeId} {m k : Operand} {cok : Bool} : vcAct P fz σ dst (.lookup t m k cok) K = (((σ.opd m).strip.1 ∧ (σ.opd k).strip.1) ∧ vcMapGet σ dst (tMapI P t) (σ.opd m).strip.2 (σ.opd k).strip.2 cok K) := rfl
theorem mapGet_is {dst : Option Nat} {kk : KK} {ik : IntKind} {id : Nat} {kd : D} {cok : Bool} : vcMapGet σ dst (some (kk, ik)) (.mp id) (.d kd) cok K = selMg σ dst kk ik kd cok (σ.hp.heap id) K := rfl
theorem selMg_some {dst : Option Nat} {kk : KK} {ik : IntKind} {kd : D} {cok : Bool} {es : List (D × D)} : selMg σ dst kk ik kd cok (some (.mb es)) K = ((keyOk kk kd ∧ ∀ e ∈ es, keyOk kk e.1) ∧ K (σ.put dst (if cok then .tp [.d (mget ik es kd), .d (.bool (mhas es kd))] else .d (mget ik es kd)))) := rfl

def selMk (σ : AS) (dst : Option Nat) (e : Option (Nat × Nat × TypeId)) (x y : AV) (p q : Prop) (T : TypeId → Option (Bool × Nat × List Value)) (K : AS → Prop) : Prop :=
  match dst, e, x, y with
    | some k, some (es, by', e), .d (.int _ m), .d (.int _ n) => match T e with
      | some (ag, _, z) => match zeroD ag z with
        | some zd => (σ.free (100 * k) ∧ p ∧ q ∧ 0 ≤ m ∧ m ≤ n ∧ (by' : Int) * n ≤ 281474976710656 ∧ n ≤ 9223372036854775807 ∧ zd.fits es ∧ 0 < es) ∧
            K ((σ.new (100 * k) (.ar es (List.replicate m.toNat zd))).put (some k) (.sl es (100 * k) 0 m.toNat))
        | none => False
      | none => False
    | _, _, _, _ => False
theorem act_make {dst : Option Nat} {t : TypeId} {l cp : Operand} : vcAct P fz σ dst (.makeSlice t l cp) K = selMk σ dst (tElem P t) (σ.opd l).strip.2 (σ.opd cp).strip.2 (σ.opd l).strip.1 (σ.opd cp).strip.1 (tI P) K := rfl
def selMkZ (σ : AS) (k es by' : Nat) (m n : Int) (p q : Prop) (zd : Option D) (K : AS → Prop) : Prop :=
  match zd with
  | some zd => (σ.free (100 * k) ∧ p ∧ q ∧ 0 ≤ m ∧ m ≤ n ∧ (by' : Int) * n ≤ 281474976710656 ∧ n ≤ 9223372036854775807 ∧ zd.fits es ∧ 0 < es) ∧
            K ((σ.new (100 * k) (.ar es (List.replicate m.toNat zd))).put (some k) (.sl es (100 * k) 0 m.toNat))
  | none => False
def zeroT (q : Option (Bool × Nat × List Value)) : Option D := match q with | some (ag, _, z) => zeroD ag z | none => none
theorem selMk_some {k es by' : Nat} {e : TypeId} {k1 k2 : IntKind} {m n : Int} {p q : Prop} {T : TypeId → Option (Bool × Nat × List Value)} : selMk σ (some k) (some (es, by', e)) (.d (.int k1 m)) (.d (.int k2 n)) p q T K =
    selMkZ σ k es by' m n p q (zeroT (T e)) K := by
  simp only [selMk, selMkZ, zeroT]
  cases T e with
  | none => rfl
  | some q => cases zeroD q.1 q.2.2 <;> rfl
theorem selMkZ_some {k es by' : Nat} {m n : Int} {p q : Prop} {zd : D} : selMkZ σ k es by' m n p q (some zd) K = ((σ.free (100 * k) ∧ p ∧ q ∧ 0 ≤ m ∧ m ≤ n ∧ (by' : Int) * n ≤ 281474976710656 ∧ n ≤ 9223372036854775807 ∧ zd.fits es ∧ 0 < es) ∧
            K ((σ.new (100 * k) (.ar es (List.replicate m.toNat zd))).put (some k) (.sl es (100 * k) 0 m.toNat))) := rfl

def selBs (σ : AS) (dst : Option Nat) (len n : Nat) (is : List Nat) (st : Prop) (e : Option (Nat × Nat × TypeId)) (T : TypeId → Option (Bool × Nat × List Value)) (q : Option (Prop × List D × List Nat)) (K : AS → Prop) : Prop :=
  match dst, e with
    | some k, some (es, _, e) => match T e, q with
      | some _, some (p, ys, l) => (σ.free (100 * k) ∧ st ∧ is = List.range len ∧ n = len ∧ p ∧ (∀ y ∈ ys, y.fits es) ∧ 0 < es ∧ len * es ≤ 16777216) ∧
          K ((AS.new (σ.withHp (σ.hp.dropL l)) (100 * k) (.ar es ys)).put (some k) (.sl es (100 * k) 0 len))
      | _, _ => False
    | _, _ => False
theorem act_bslice {dst : Option Nat} {t : TypeId} {len : Nat} {parts : Array (Nat × Operand)} : vcAct P fz σ dst (.buildSlice t len parts) K =
    selBs σ dst len parts.size (parts.toList.map Prod.fst) (stripsP (parts.toList.map fun p => σ.opd p.2)) (tElem P t) (tI P) (toDA σ.hp (strips (parts.toList.map fun p => σ.opd p.2))) K := rfl
def selBsT (σ : AS) (k len n es : Nat) (is : List Nat) (st : Prop) (T : Option (Bool × Nat × List Value)) (q : Option (Prop × List D × List Nat)) (K : AS → Prop) : Prop :=
  match T, q with
      | some _, some (p, ys, l) => (σ.free (100 * k) ∧ st ∧ is = List.range len ∧ n = len ∧ p ∧ (∀ y ∈ ys, y.fits es) ∧ 0 < es ∧ len * es ≤ 16777216) ∧
          K ((AS.new (σ.withHp (σ.hp.dropL l)) (100 * k) (.ar es ys)).put (some k) (.sl es (100 * k) 0 len))
      | _, _ => False
theorem selBs_some {k len n es b : Nat} {is : List Nat} {st : Prop} {e : TypeId} {T : TypeId → Option (Bool × Nat × List Value)} {q : Option (Prop × List D × List Nat)} : selBs σ (some k) len n is st (some (es, b, e)) T q K = selBsT σ k len n es is st (T e) q K := rfl
theorem selBsT_some {k len n es : Nat} {is : List Nat} {st : Prop} {z : Bool × Nat × List Value} {p : Prop} {ys : List D} {l : List Nat} : selBsT σ k len n es is st (some z) (some (p, ys, l)) K =
    ((σ.free (100 * k) ∧ st ∧ is = List.range len ∧ n = len ∧ p ∧ (∀ y ∈ ys, y.fits es) ∧ 0 < es ∧ len * es ≤ 16777216) ∧
          K ((AS.new (σ.withHp (σ.hp.dropL l)) (100 * k) (.ar es ys)).put (some k) (.sl es (100 * k) 0 len))) := rfl

def selAp (σ : AS) (dst : Option Nat) (s : AV) (q : Option (Prop × List D)) (e e2 : Option (Nat × Nat × TypeId)) (T : TypeId → Option (Bool × Nat × List Value)) (K : AS → Prop) : Prop :=
  match q, e, e2 with
  | some (p, ys), some (es, by', e), some _ => match T e with
    | some (_, _, z) => match s with
      | .nl => match dst with
        | some k => (σ.free (100 * k) ∧ p ∧ z.length = es ∧ 0 < es ∧ (∀ y ∈ ys, y.fits es) ∧ ys.length ≤ 9223372036854775807 ∧ ys.length * by' ≤ 140737488355328) ∧ K ((σ.new (100 * k) (.ar es ys)).put dst (.sl es (100 * k) 0 ys.length))
        | none => False
      | .sl sz id off len => match σ.hp.heap id with
        | some (.ar sz' zs) => (100 ≤ id ∧ p ∧ sz = es ∧ sz' = es ∧ off + len = zs.length ∧ z.length = es ∧ 0 < es ∧ (∀ y ∈ ys, y.fits es) ∧ len + ys.length ≤ 9223372036854775807 ∧ (len + ys.length) * by' ≤ 140737488355328) ∧
            K ((σ.renew id (.ar es (zs.drop off ++ ys))).put dst (.sl es id 0 (len + ys.length)))
        | _ => False
      | _ => False
    | none => False
  | _, _, _ => False
theorem append_is {dst : Option Nat} {t t2 : TypeId} {s x : AV} : vcAppend P σ dst t t2 s x K = selAp σ dst s (srcOf σ.hp x) (tElem P t) (tElem P t2) (tI P) K := rfl
def selApN (σ : AS) (k es by' : Nat) (p : Prop) (ys : List D) (T : Option (Bool × Nat × List Value)) (K : AS → Prop) : Prop :=
  match T with
  | some (_, _, z) => (σ.free (100 * k) ∧ p ∧ z.length = es ∧ 0 < es ∧ (∀ y ∈ ys, y.fits es) ∧ ys.length ≤ 9223372036854775807 ∧ ys.length * by' ≤ 140737488355328) ∧ K ((σ.new (100 * k) (.ar es ys)).put (some k) (.sl es (100 * k) 0 ys.length))
  | none => False
theorem selAp_nl {k es by' : Nat} {p : Prop} {ys : List D} {e : TypeId} {e2 : Nat × Nat × TypeId} {T : TypeId → Option (Bool × Nat × List Value)} : selAp σ (some k) .nl (some (p, ys)) (some (es, by', e)) (some e2) T K = selApN σ k es by' p ys (T e) K := rfl
theorem selApN_some {k es by' n : Nat} {b : Bool} {p : Prop} {ys : List D} {z : List Value} : selApN σ k es by' p ys (some (b, n, z)) K =
    ((σ.free (100 * k) ∧ p ∧ z.length = es ∧ 0 < es ∧ (∀ y ∈ ys, y.fits es) ∧ ys.length ≤ 9223372036854775807 ∧ ys.length * by' ≤ 140737488355328) ∧ K ((σ.new (100 * k) (.ar es ys)).put (some k) (.sl es (100 * k) 0 ys.length))) := rfl
def selApS (σ : AS) (dst : Option Nat) (sz id off len es by' : Nat) (p : Prop) (ys : List D) (T : Option (Bool × Nat × List Value)) (h : Option Blk) (K : AS → Prop) : Prop :=
  match T with
  | some (_, _, z) => match h with
     | some (.ar sz' zs) => (100 ≤ id ∧ p ∧ sz = es ∧ sz' = es ∧ off + len = zs.length ∧ z.length = es ∧ 0 < es ∧ (∀ y ∈ ys, y.fits es) ∧ len + ys.length ≤ 9223372036854775807 ∧ (len + ys.length) * by' ≤ 140737488355328) ∧
            K ((σ.renew id (.ar es (zs.drop off ++ ys))).put dst (.sl es id 0 (len + ys.length)))
     | _ => False
  | none => False
theorem selAp_sl {dst : Option Nat} {sz id off len es by' : Nat} {p : Prop} {ys : List D} {e : TypeId} {e2 : Nat × Nat × TypeId} {T : TypeId → Option (Bool × Nat × List Value)} : selAp σ dst (.sl sz id off len) (some (p, ys)) (some (es, by', e)) (some e2) T K = selApS σ dst sz id off len es by' p ys (T e) (σ.hp.heap id) K := by
  simp only [selAp, selApS]
theorem selApS_some {dst : Option Nat} {sz id off len es by' n sz' : Nat} {b : Bool} {p : Prop} {ys zs : List D} {z : List Value} : selApS σ dst sz id off len es by' p ys (some (b, n, z)) (some (.ar sz' zs)) K =
    ((100 ≤ id ∧ p ∧ sz = es ∧ sz' = es ∧ off + len = zs.length ∧ z.length = es ∧ 0 < es ∧ (∀ y ∈ ys, y.fits es) ∧ len + ys.length ≤ 9223372036854775807 ∧ (len + ys.length) * by' ≤ 140737488355328) ∧
            K ((σ.renew id (.ar es (zs.drop off ++ ys))).put dst (.sl es id 0 (len + ys.length)))) := rfl

theorem act_call {dst : Option Nat} {cl : Call} : vcAct P fz σ dst (.call cl) K = vcCallOp P σ dst cl.callee cl.args.toList cl.argTypes.toList K := rfl
theorem callOp_append {dst : Option Nat} {s x : Operand} {t t2 : TypeId} : vcCallOp P σ dst (.builtin .append) [s, x] [t, t2] K = ((σ.opd s).strip.1 ∧ (σ.opd x).strip.1 ∧ vcAppend P σ dst t t2 (σ.opd s).strip.2 (σ.opd x).strip.2 K) := rfl
def selCp (σ : AS) (dst : Option Nat) (s : AV) (q : Option (Prop × List D)) (e : Option (Nat × Nat × TypeId)) (K : AS → Prop) : Prop :=
  match q, e, s with
  | some (p, ys), some (es, _, _), .sl sz id off dl => match σ.hp.heap id with
    | some (.ar sz' zs) => (p ∧ es = 1 ∧ sz = 1 ∧ sz' = 1 ∧ off + dl ≤ zs.length ∧ (∀ y ∈ ys, y.isAgg = false) ∧ 0 < min ys.length dl) ∧
        K ((σ.withHp (σ.hp.set id (.ar 1 (zs.take off ++ ys.take (min ys.length dl) ++ zs.drop (off + min ys.length dl))))).put dst (.d (.int .i64 ((min ys.length dl : Nat) : Int))))
    | _ => False
  | _, _, _ => False
theorem callOp_copy {dst : Option Nat} {s x : Operand} {t t2 : TypeId} : vcCallOp P σ dst (.builtin .copy) [s, x] [t, t2] K = ((σ.opd s).strip.1 ∧ (σ.opd x).strip.1 ∧ selCp σ dst (σ.opd s).strip.2 (srcOf σ.hp (σ.opd x).strip.2) (tElem P t) K) := rfl
def selCpH (σ : AS) (dst : Option Nat) (es sz id off dl : Nat) (p : Prop) (ys : List D) (h : Option Blk) (K : AS → Prop) : Prop :=
  match h with
    | some (.ar sz' zs) => (p ∧ es = 1 ∧ sz = 1 ∧ sz' = 1 ∧ off + dl ≤ zs.length ∧ (∀ y ∈ ys, y.isAgg = false) ∧ 0 < min ys.length dl) ∧
        K ((σ.withHp (σ.hp.set id (.ar 1 (zs.take off ++ ys.take (min ys.length dl) ++ zs.drop (off + min ys.length dl))))).put dst (.d (.int .i64 ((min ys.length dl : Nat) : Int))))
    | _ => False
theorem selCp_some {dst : Option Nat} {sz id off dl es b : Nat} {e : TypeId} {p : Prop} {ys : List D} : selCp σ dst (.sl sz id off dl) (some (p, ys)) (some (es, b, e)) K = selCpH σ dst es sz id off dl p ys (σ.hp.heap id) K := rfl
theorem selCpH_some {dst : Option Nat} {sz id off dl es sz' : Nat} {p : Prop} {ys zs : List D} : selCpH σ dst es sz id off dl p ys (some (.ar sz' zs)) K = ((p ∧ es = 1 ∧ sz = 1 ∧ sz' = 1 ∧ off + dl ≤ zs.length ∧ (∀ y ∈ ys, y.isAgg = false) ∧ 0 < min ys.length dl) ∧
        K ((σ.withHp (σ.hp.set id (.ar 1 (zs.take off ++ ys.take (min ys.length dl) ++ zs.drop (off + min ys.length dl))))).put dst (.d (.int .i64 ((min ys.length dl : Nat) : Int))))) := rfl
theorem callOp_value {dst : Option Nat} {f : Operand} {args : List Operand} {ats : List TypeId} : vcCallOp P σ dst (.value f) args ats K = ((σ.opd f).strip.1 ∧ stripsP (args.map σ.opd) ∧ vcCall P σ (σ.opd f).strip.2 (strips (args.map σ.opd)) (kPut dst K)) := by
  unfold vcCallOp; rfl
theorem call_fv {g : FuncId} {first xs caps : List AV} {K : AV → AS → Prop} : vcCall P σ (.fv (.func g) first caps) xs K = (callable P g = true ∧ CallVC P g (first ++ xs ++ caps) σ K) := rfl
/-- A call of a function value that is only known by what it answers. -/
def CloVC (S : List D → (D → Prop) → Prop) (q : Option (Prop × List D × List Nat)) (K : D → Prop) : Prop :=
  match q with
  | some (p, ds, _) => p ∧ S ds K
  | none => False
theorem call_clo {S : List D → (D → Prop) → Prop} {xs : List AV} {K : AV → AS → Prop} : vcCall P σ (.clo S) xs K = CloVC S (toDA σ.hp xs) (kD K σ) := rfl

/-- The steps of a schedule. -/
def selPur (σ : AS) (dst : Option Nat) (q : Option PA) (K : AS → Prop) : Prop :=
  match q with
  | some (p, x) => p ∧ K (σ.put dst x)
  | none => False
theorem selPur_some {dst : Option Nat} {p : Prop} {x : AV} : selPur σ dst (some (p, x)) K = (p ∧ K (σ.put dst x)) := rfl
def selO (P : Program) (ops : Array Oper) (o : Option Oper) (σ : AS) (K : AS → Prop) : Prop :=
  match o with
  | some o => selPur σ o.dst (pureV P σ ops o) K
  | none => False
theorem selO_some {o : Oper} : selO P ops (some o) σ K = selPur σ o.dst (pureV P σ ops o) K := rfl
def selI (P : Program) (fz : List Nat) (ops : Array Oper) (o : Option Oper) (σ : AS) (K : AS → Prop) : Prop :=
  match o with
  | some o => vcOp P fz ops σ o K
  | none => K σ
theorem sched_nil : vcSched P fz ops .nil σ K = K σ := rfl
theorem sched_pur {i : Nat} {st : Sched} : vcSched P fz ops (.pur i st) σ K = selO P ops ops[i]? σ (kSched P fz ops st K) := by
  show vcPur P ops i σ (kSched P fz ops st K) = _
  unfold vcPur selO selPur
  rfl
theorem sched_eff {j : Nat} {chk : List Nat} {st : Sched} : vcSched P fz ops (.eff j chk st) σ K = selI P fz ops ops[j]? σ (kChk P fz ops chk st K) := rfl
theorem sched_alt {j1 : Nat} {c1 : List Nat} {r1 : Sched} {j2 : Nat} {c2 : List Nat} {r2 : Sched} : vcSched P fz ops (.alt j1 c1 r1 j2 c2 r2) σ K = (selI P fz ops ops[j1]? σ (kChk P fz ops c1 r1 K) ∧ selI P fz ops ops[j2]? σ (kChk P fz ops c2 r2 K)) := rfl
theorem sched_alt3 {j1 : Nat} {c1 : List Nat} {r1 : Sched} {j2 : Nat} {c2 : List Nat} {r2 : Sched} {j3 : Nat} {c3 : List Nat} {r3 : Sched} : vcSched P fz ops (.alt3 j1 c1 r1 j2 c2 r2 j3 c3 r3) σ K = (selI P fz ops ops[j1]? σ (kChk P fz ops c1 r1 K) ∧ selI P fz ops ops[j2]? σ (kChk P fz ops c2 r2 K) ∧ selI P fz ops ops[j3]? σ (kChk P fz ops c3 r3 K)) := rfl
theorem schA_nil {t : Sched} : schA [] t = t := rfl
theorem schA_pur {i : Nat} {r : List Step} {t : Sched} : schA (.pur i :: r) t = .pur i (schA r t) := rfl
theorem schA_eff {j : Nat} {c : List Nat} {r : List Step} {t : Sched} : schA (.eff j c :: r) t = .eff j c (schA r t) := rfl
theorem sch_is {l : List Step} : sch l = schA l .nil := rfl
theorem selI_u {dst : Option Nat} {op : Op} {ty : TypeId} {pos : String} {aft : Array Edge} : selI P fz ops (some ⟨dst, op, ty, pos, aft, none⟩) σ K = vcSel P fz σ dst op (fval P σ op) K := by
  simp only [selI, vcOp, vcSel]
  cases fval P σ op <;> rfl
theorem selI_g {dst : Option Nat} {op : Op} {ty : TypeId} {pos : String} {aft : Array Edge} {j : Nat} {b : Bool} : selI P fz ops (some ⟨dst, op, ty, pos, aft, some (j, b)⟩) σ K = vcSelG P fz σ dst op (gBool (guardAV σ ops j) b) (fval P σ op) K := by
  simp only [selI, vcOp, vcSelG, vcSelC]
  cases gBool (guardAV σ ops j) b with
  | none => rfl
  | some g => cases fval P σ op <;> rfl
theorem pureV_u {dst : Option Nat} {op : Op} {ty : TypeId} {pos : String} {aft : Array Edge} : pureV P σ ops ⟨dst, op, ty, pos, aft, none⟩ = fval P σ op := rfl
def gPA (g : Option Bool) (q : Option PA) : Option PA := match g, q with
  | some g, some (p, x) => some (g = true → p, mkOp g x)
  | _, _ => none
theorem pureV_g {dst : Option Nat} {op : Op} {ty : TypeId} {pos : String} {aft : Array Edge} {j : Nat} {b : Bool} : pureV P σ ops ⟨dst, op, ty, pos, aft, some (j, b)⟩ = gPA (gBool (guardAV σ ops j) b) (fval P σ op) := rfl
theorem gPA_some {g : Bool} {p : Prop} {x : AV} : gPA (some g) (some (p, x)) = some (g = true → p, mkOp g x) := rfl
def selChk (σ : AS) (q : Option PA) (d : Option Nat) : Prop := match q, d with
  | some (p, x), some d => p ∧ x = σ.sl d
  | _, _ => False
theorem selChk_some {p : Prop} {x : AV} {d : Nat} : selChk σ (some (p, x)) (some d) = (p ∧ x = σ.sl d) := rfl
def selChO (P : Program) (ops : Array Oper) (σ : AS) (o : Option Oper) : Prop := match o with
  | some o => selChk σ (pureV P σ ops o) o.dst
  | none => False
theorem selChO_some {o : Oper} : selChO P ops σ (some o) = selChk σ (pureV P σ ops o) o.dst := rfl
theorem chk_nil : chkAll P ops σ [] = True := rfl
theorem chk_cons {i : Nat} {l : List Nat} : chkAll P ops σ (i :: l) = (selChO P ops σ ops[i]? ∧ chkAll P ops σ l) := rfl

theorem put_sl {k : Nat} {x : AV} {t : Nat} : (σ.put (some k) x).sl t = if t = k then x else σ.sl t := rfl
theorem put_none {x : AV} : σ.put none x = σ := rfl
theorem put_hp {k : Option Nat} {x : AV} : (σ.put k x).hp = σ.hp := by cases k <;> rfl
theorem put_used {k : Option Nat} {x : AV} : (σ.put k x).used = σ.used := by cases k <;> rfl
theorem entry_sl {args : List AV} {hs : List (Nat × Blk)} {t : Nat} : (entryS args hs).sl t = (args[t]?).getD .unk := rfl
theorem entry_hp {args : List AV} {hs : List (Nat × Blk)} {t : Nat} : (entryS args hs).hp = hpOf hs := rfl
theorem opd_tmp {t : Nat} : σ.opd (.tmp t) = σ.sl t := rfl
theorem opd_const {v : Value} : σ.opd (.const v) = ofVal v := rfl
theorem opd_func {f : FuncId} : σ.opd (.func f) = .fv (.func f) [] [] := rfl
theorem mkS_hp {slots : List (Nat × AV)} {heap : List (Nat × Blk)} {used : List Nat} : (mkS slots heap used).hp = hpOf heap := rfl
def lkS : List (Nat × AV) → Nat → AV
  | [], _ => .unk
  | (k, x) :: r, t => if t = k then x else lkS r t
theorem mkS_sl {slots : List (Nat × AV)} {heap : List (Nat × Blk)} {used : List Nat} {t : Nat} : (mkS slots heap used).sl t = lkS slots t := by
  simp only [mkS]
  induction slots with
  | nil => rfl
  | cons p r ih =>
    obtain ⟨k, x⟩ := p
    rw [List.lookup_cons, lkS]
    by_cases h : t = k
    · subst h; simp
    · rw [if_neg h, ← ih]
      have : (t == k) = false := by simpa using h
      rw [this]

/-- The result is a datum, or is handed back as one. -/
def retF (p : Prop) (q : Option (Prop × D × List Nat)) (R : D → Prop) : Prop :=
  match q with
  | some (q, y, _) => p ∧ q ∧ R y
  | none => False
def retP (σ : AS) (q : PA) (R : D → Prop) : Prop := retF q.1 (toD σ.hp q.2) R
def retD (P : Program) (rs : List ResultVar) (R : D → Prop) : Ex → AS → Prop
  | .exit _, _ => False
  | _, σ => retP σ (resAV P σ rs) R
theorem retD_r {rs : List ResultVar} {R : D → Prop} : retD P rs R .ret σ = retP σ (resAV P σ rs) R := rfl
theorem retD_n {rs : List ResultVar} {R : D → Prop} : retD P rs R .normal σ = retP σ (resAV P σ rs) R := rfl
theorem retP_is {p : Prop} {x : AV} {R : D → Prop} : retP σ (p, x) R = retF p (toD σ.hp x) R := rfl
theorem retF_some {p q : Prop} {y : D} {l : List Nat} {R : D → Prop} : retF p (some (q, y, l)) R = (p ∧ q ∧ R y) := rfl

/-- Functions that only read, and answer with a datum. -/
def DCalls (P : Program) (f : FuncId) (args : List AV) (R : D → Prop) : Prop := ACalls P f args [] fun x _ res => (∃ r, x = .d r ∧ R r) ∧ res = []

theorem acalls_intro {f : FuncId} {fn : Func} {code : Code} {n : Nat} {rs : List ResultVar} (hm : P.follows .mixedOrders = true) (hf : P.funcs[f]? = some fn) (hb : fn.body = some code) (hn : fn.ntmps = n) (hr : fn.results.toList = rs)
    (fz : List Nat) (hst : slotsOk n code = true) {args : List AV} {hs : List (Nat × Blk)} {K : AV → List Blk → List (Nat × Blk) → Prop}
    (hargs : args.length ≤ n) (hv : VC P fz code (entryS args hs) (retQ P (hs.map Prod.fst) rs K)) : ACalls P f args hs K := by
  subst hn; subst hr
  exact acalls_of_vc hm hf hb fz hst hargs hv

theorem dcalls_intro {f : FuncId} {fn : Func} {code : Code} {n : Nat} {rs : List ResultVar} (hm : P.follows .mixedOrders = true) (hf : P.funcs[f]? = some fn) (hb : fn.body = some code) (hn : fn.ntmps = n) (hr : fn.results.toList = rs)
    (fz : List Nat) (hst : slotsOk n code = true) {args : List AV} {R : D → Prop}
    (hargs : args.length ≤ n) (hv : VC P fz code (entryS args []) (retD P rs R)) : DCalls P f args R := by
  subst hn; subst hr
  refine acalls_of_vcQ hm hf hb fz hst hargs (Q := retD P fn.results.toList R) (fun ex σ h => ?_) hv
  have key : retP σ (resAV P σ fn.results.toList) R → (resAV P σ fn.results.toList).1 ∧ RetVC P [] σ (resAV P σ fn.results.toList).2 fun x _ res => (∃ r, x = .d r ∧ R r) ∧ res = [] := fun h => by
    generalize resAV P σ fn.results.toList = q at h ⊢
    obtain ⟨p, x⟩ := q
    unfold retP retF at h
    split at h
    · rename_i q y l e
      exact ⟨h.1, .toD e h.2.1 ⟨⟨_, rfl, h.2.2⟩, rfl⟩⟩
    · exact h.elim
  cases ex with
  | exit i => exact h
  | normal => exact key h
  | ret => exact key h

end

section
variable {P : Program} {fz : List Nat}




/-- A guarded call. -/
def GCall (P : Program) (fz : List Nat) (σ : AS) (dst : Option Nat) (f : FuncId) (args : Array Operand) (ats : Array TypeId) (xs : List AV) (g : Bool) (K : AS → Prop) : Prop :=
  xs = args.toList.map σ.opd → vcSelC P fz σ dst (.call ⟨.value (.func f), args, ats⟩) g K
theorem selC_call {σ : AS} {dst : Option Nat} {f : FuncId} {args : Array Operand} {ats : Array TypeId} {g : Bool} {K : AS → Prop} : vcSelC P fz σ dst (.call ⟨.value (.func f), args, ats⟩) g K = GCall P fz σ dst f args ats (args.toList.map σ.opd) g K := by
  simp [GCall]
theorem GCall.flat {σ : AS} {dst : Option Nat} {f : FuncId} {args : Array Operand} {ats : Array TypeId} {g : Bool} {K : AS → Prop} {xs ys : List AV} {p : Prop} {l : List Nat} {v : D}
    (hc : g = true → DCalls P f ys fun r => r = v) (hv : viewL P σ.hp (strips xs) = some (p, ys, l)) (hs : g = true → stripsP xs ∧ p) (hf : v.flat = true) (hcb : callable P f = true) (hk : K (σ.put dst (.op g (.d v)))) : GCall P fz σ dst f args ats xs g K := by
  intro hx
  refine .inr ⟨v, fun hg => ?_, hk⟩
  subst hx
  refine ⟨trivial, (hs hg).1, ?_⟩
  simp only [opd_func, AV.strip, call_fv]
  refine ⟨hcb, ?_⟩
  simp only [List.nil_append, List.append_nil]
  refine CallVC.flat hv (hs hg).2 (r := v) ((hc hg).mono ?_) hf ⟨rfl, rfl⟩
  rintro x _ res ⟨⟨r, rfl, rfl⟩, h2⟩
  exact ⟨rfl, h2⟩
theorem CallVC.dflat {σ : AS} {f : FuncId} {xs ys : List AV} {p : Prop} {l : List Nat} {R : D → Prop} {K : AV → AS → Prop} (hc : DCalls P f ys R) (hv : viewL P σ.hp xs = some (p, ys, l)) (hp : p) (hf : ∀ r, R r → r.flat = true) (hk : ∀ r, R r → K (.d r) σ) : CallVC P f xs σ K := by
  refine CallVC.flats hv hp (R := R) (hc.mono ?_) hk
  rintro x _ res ⟨⟨r, rfl, hr⟩, h2⟩
  exact ⟨⟨r, rfl, hf r hr, hr⟩, h2⟩
theorem CallVC.dval {σ : AS} {f : FuncId} {xs ys : List AV} {p : Prop} {l : List Nat} {v : D} {K : AV → AS → Prop} (hc : DCalls P f ys fun r => r = v) (hv : viewL P σ.hp xs = some (p, ys, l)) (hp : p) (hf : v.flat = true) (hk : K (.d v) σ) : CallVC P f xs σ K :=
  .dflat hc hv hp (by rintro r rfl; exact hf) (by rintro r rfl; exact hk)
theorem CallVC.ddat {σ : AS} {f : FuncId} {xs ys : List AV} {p : Prop} {R : D → Prop} {K : AV → AS → Prop} (hc : DCalls P f ys R) (hv : viewL P σ.hp xs = some (p, ys, [])) (hp : p) (hk : ∀ r, R r → K (.d r) σ) : CallVC P f xs σ K :=
  .data hv hp hc hk

/-- A loop whose states are written out. -/
theorem LoopVC.at {body : AS → (Ex → AS → Prop) → Prop} {σ : AS} {Q : Ex → AS → Prop} (G : Type) (slots : G → List (Nat × AV)) (heap : G → List (Nat × Blk)) (used : List Nat) (μ : G → Nat) (g0 : G) (hs : slotsLe σ used (slots g0)) (hh : heapLe σ used (heap g0))
    (h : ∀ g, body (mkS (slots g) (heap g) used) (loopQ P (fun g => mkS (slots g) (heap g) used) μ g Q)) : LoopVC P body σ Q :=
  ⟨G, fun g => mkS (slots g) (heap g) used, μ, g0, .mk hs hh, h⟩

theorem mkAg_map (cs : List D) : mkAg (cs.map .d) = .d (.agg cs) := by
  have : ∀ cs : List D, AV.allD (cs.map .d) = some cs := by
    intro cs; induction cs with
    | nil => rfl
    | cons x r ih => simp [AV.allD, ih]
  simp [mkAg, this]

theorem CallVC.mono {f : FuncId} {as : List AV} {σ : AS} {K K' : AV → AS → Prop} (h : CallVC P f as σ K) (hk : ∀ x s, K x s → K' x s) : CallVC P f as σ K' := by
  intro c ρ w vals loc hr
  refine (h c ρ w vals loc hr).mono fun e w' ⟨v, x, σ', loc', he, hK, hr'⟩ => ⟨v, x, σ', loc', he, hk x σ' hK, hr'⟩

attribute [simp ↓] kSched_ap kChk_ap sched_nil sched_pur sched_eff sched_alt sched_alt3 schA_nil schA_pur schA_eff sch_is chk_nil chk_cons kVC_ap kOps_ap kPut_ap kD_ap VC_skip VC_ret VC_exit VC_seq VC_block VC_cond VC_region VC_loop VC_any seqQ_n seqQ_e seqQ_r blockQ_n blockQ_e blockQ_r loopQ_n loopQ_e loopQ_r vcOps_nil vcOps_cons vcOps_consG
  act_makeMap act_insert act_mapUpdate act_lookup act_make act_bslice append_is act_alloc act_box act_store act_call callOp_append callOp_copy callOp_value condVC_t condVC_f
attribute [simp] mapPut_is selMp_some mapGet_is selMg_some keyOk selCp_some selCpH_some selPur_some selO_some selI_u selI_g pureV_u pureV_g gPA_some selChk_some selChO_some selMk_some selMkZ_some zeroT selBs_some selBsT_some selAp_nl selApN_some selAp_sl selApS_some withHp_sl withHp_hp withHp_used new_sl new_hp new_used renew_sl renew_hp renew_used set_heap drop_heap kill_heap hpOf_heap mkS_used entry_used AS.free AV.kill AV.killL Blk.kill HP.dropL AV.vw AV.vw1
  setCells AV.cell1 D.isAgg toDs newElem dsets zeroD ofValD ofValDs D.fits srcOf CloVC slotsLe heapLe AV.kp AV.kpL Blk.kp outU lookH toDA toD toD1 D.cells Option.map_some vcSel_some vcSel_none vcSelG_some vcSelG_none condVC_b condVC_t condVC_f selAlloc_some selAlloc_zero selBox_t selBox_f store_ptr selStB_some store_ep selStE_some call_fv call_clo
  put_sl put_none put_hp put_used entry_sl entry_hp opd_tmp opd_const opd_func mkS_hp mkS_sl lkS fval ofVal st1 st2 AV.strip fPick fPickC mkOp fBuild fBuildGo fBin fBinInt fBinStr fUn guardAV gBool fLoad fField fIdx fIndex fLen pickCells mkAg AV.allD
  resAV resAll resOne stO fSlice fConv fCall fMin fMax fConvX fConvB D.isU8 D.u8 fAggEq aggOk aggEq fExtract fNil selC_call bnd strips stripsP cellsA retD_r retD_n retP_is retF_some

end
end Go.Fw
