/- Maps of the frame's own, with keys that are integers or rows of integers: made, looked up, written. -/
import Derived.Test.YtfiipgebdcbknaaFwJ
import Derived.MapKept
import Derived.WideKeyRuns
set_option linter.unusedSimpArgs false
set_option linter.unusedVariables false
namespace Go.Fw
open Go

/-- What a key is: an integer, or a row of them. -/
inductive KK where
  | one (k : IntKind)
  | row (ks : List IntKind)
def tKey (P : Program) (t : TypeId) : Option KK :=
  match P.underlying t with
  | some (.int k) => some (.one k)
  | some (.array _ _) => (tEqS P t).map .row
  | _ => none
/-- A map type: its keys' kind; its values are integers. -/
def tMapI (P : Program) (t : TypeId) : Option (KK × IntKind) :=
  match P.underlying t with
  | some (.map kt et) => match tKey P kt, (P.info? et).bind (·.zero) with
    | some kk, some (.int ik 0) => some (kk, ik)
    | _, _ => none
  | _ => none
def keyOk : KK → D → Prop
  | .one k, .int k' _ => k' = k
  | .row ks, .agg cs => aggOk ks cs
  | _, _ => False
def keyEq : D → D → Bool
  | .int _ a, .int _ b => a == b
  | .agg as, .agg bs => aggEq as bs
  | _, _ => false
def mhas (es : List (D × D)) (k : D) : Bool := es.any fun e => keyEq k e.1
def mget (ik : IntKind) (es : List (D × D)) (k : D) : D := ((es.find? fun e => keyEq k e.1).map Prod.snd).getD (.int ik 0)

section
variable {P : Program} {w : World} {ok : Nat → Prop}

theorem RepV.inv_int {v : Value} {k : IntKind} {n : Int} (h : RepV w ok v (.int k n)) : v = .int k n := by cases h; rfl
theorem RepV.inv_agg {v : Value} {cs : List D} (h : RepV w ok v (.agg cs)) : ∃ vs, v = .agg vs := by cases h with | agg _ _ => exact ⟨_, rfl⟩

/-- Two keys are compared. -/
theorem key_equal {kt : TypeId} {kk : KK} {a b : Value} {x y : D} (ht : tKey P kt = some kk) (hx : keyOk kk x) (hy : keyOk kk y) (ha : RepV w ok a x) (hb : RepV w ok b y) :
    (Op.equal kt a b).run P w = .ok (keyEq x y) w := by
  unfold tKey at ht
  split at ht
  · rename_i k hu
    simp only [Option.some.injEq] at ht; subst ht
    cases x <;> simp only [keyOk] at hx <;> try exact hx.elim
    cases y <;> simp only [keyOk] at hy <;> try exact hy.elim
    subst hx; subst hy
    rw [ha.inv_int, hb.inv_int]
    exact run_equalIn_int w 9999 kt _ _ _ _ hu
  · simp only [Option.map_eq_some_iff] at ht
    obtain ⟨ks, hks, rfl⟩ := ht
    cases x <;> simp only [keyOk] at hx <;> try exact hx.elim
    cases y <;> simp only [keyOk] at hy <;> try exact hy.elim
    obtain ⟨va, rfl⟩ := ha.inv_agg
    obtain ⟨vb, rfl⟩ := hb.inv_agg
    exact run_equal_aggs 9998 hks hx hy ha.agg_get hb.agg_get
  · cases ht

theorem aggOk_get : ∀ {ks : List IntKind} {cs : List D}, aggOk ks cs → cs.length = ks.length ∧ ∀ i, i < cs.length → ∃ k n, ks[i]? = some k ∧ cs[i]? = some (.int k n)
  | [], [], _ => ⟨rfl, fun i h => by simp at h⟩
  | k :: ks, .int k' n :: cs, h => by
    obtain ⟨rfl, h2⟩ := h
    obtain ⟨i1, i2⟩ := aggOk_get h2
    refine ⟨by simp [i1], fun i hi => ?_⟩
    cases i with
    | zero => exact ⟨k', n, rfl, rfl⟩
    | succ i => simpa using i2 i (by simpa using hi)

/-- A key can be one. -/
theorem key_check {kt : TypeId} {kk : KK} {a : Value} {x : D} (ht : tKey P kt = some kk) (hx : keyOk kk x) (ha : RepV w ok a x) (em : Bool) : (Instr.checkKey em 10000 kt a).run P w = .ok () w := by
  unfold tKey at ht
  split at ht
  · rename_i k hu
    simp only [Option.some.injEq] at ht; subst ht
    cases x <;> simp only [keyOk] at hx <;> try exact hx.elim
    subst hx
    rw [ha.inv_int, show (10000 : Nat) = 9999 + 1 from rfl]
    generalize (9999 : Nat) = m
    simp [Instr.checkKey, run_underlying hu]
  · rename_i n e hu
    simp only [Option.map_eq_some_iff] at ht
    obtain ⟨ks, hks, rfl⟩ := ht
    cases x <;> simp only [keyOk] at hx <;> try exact hx.elim
    rename_i cs
    obtain ⟨vs, rfl⟩ := ha.inv_agg
    unfold tEqS at hks
    rw [hu] at hks
    simp only at hks
    split at hks
    · rename_i hs
      simp only [Option.map_eq_some_iff] at hks
      obtain ⟨k, hk, rfl⟩ := hks
      have hue := tInt_und hk
      obtain ⟨i, hi⟩ := Option.isSome_iff_exists.1 hs.2.1
      have hsz : i.size = 1 := by have := hs.2.2; simpa [Program.cellsOf, hi] using this
      obtain ⟨l1, l2⟩ := aggOk_get hx
      rw [List.length_replicate] at l1
      have hget := ha.agg_get
      rw [show (10000 : Nat) = (9998 + 1) + 1 from rfl, Instr.checkKey]
      generalize (9998 : Nat) = dd
      simp only [Sem.run_bind, run_underlying hu, Result.andThen_ok]
      simp only [Std.Legacy.Range.forIn_eq_forIn_range', Std.Legacy.Range.size, Nat.sub_zero, Nat.add_one_sub_one, Nat.div_one]
      have each : ∀ j ∈ List.range' 0 n, ∃ m, vs[j]? = some (.int k m) := fun j hj => by
        have hj' : j < cs.length := by rw [l1]; simpa using hj
        obtain ⟨k', m, g1, g2⟩ := l2 j hj'
        rw [List.getElem?_replicate, if_pos (by omega)] at g1
        simp only [Option.some.injEq] at g1; subst g1
        exact ⟨m, hget j _ m g2⟩
      generalize List.range' 0 n = is at each
      induction is with
      | nil => simp
      | cons j is ih =>
        obtain ⟨m, hm⟩ := each j (by simp)
        have p1 := run_part_plain w (plain_int hue) (xs := vs) (off := j * i.size) (by rw [hsz, Nat.mul_one]; exact hm)
        have p2 : (Instr.checkKey em (dd + 1) e (.int k m)).run P w = .ok () w := by
          simp [Instr.checkKey, run_underlying hue]
        simp only [List.forIn_cons, Sem.run_bind, run_sizeOf' hi, Result.andThen_ok, p1, p2, Sem.run_pure]
        exact ih (fun y hy => each y (by simp [hy]))
    · cases hks
  · cases ht

/-- The entries that are in a map, and the data. -/
def EntsOk (w : World) (ok : Nat → Prop) (ents : List MapEntry) (es : List (D × D)) : Prop :=
  ents.length = es.length ∧ ∀ (i : Nat) e p, ents[i]? = some e → es[i]? = some p → RepV w ok e.key p.1 ∧ RepV w ok e.val p.2

theorem find_asking {kt : TypeId} {kk : KK} {a : Value} {x : D} (ht : tKey P kt = some kk) (hx : keyOk kk x) (ha : RepV w ok a x) : ∀ (ents : List MapEntry) (es : List (D × D)) (i0 : Nat), EntsOk w ok ents es → (∀ e ∈ es, keyOk kk e.1) →
    ∃ r, (Instr.findAsking kt a ents i0).run P w = .ok r w ∧ (match r with
      | some (_, v) => mhas es x = true ∧ ∃ p, es.find? (fun e => keyEq x e.1) = some p ∧ RepV w ok v p.2
      | none => mhas es x = false ∧ es.find? (fun e => keyEq x e.1) = none)
  | [], es, i0, hE, hk => by
    have : es = [] := List.length_eq_zero_iff.1 hE.1.symm
    subst this
    exact ⟨none, by simp [Instr.findAsking], by simp [mhas]⟩
  | e :: ents, [], i0, hE, hk => by have := hE.1; simp at this
  | e :: ents, p :: es, i0, hE, hk => by
    obtain ⟨h1, h2⟩ := hE.2 0 e p rfl rfl
    have heq := key_equal ht hx (hk p (by simp)) ha h1
    have hE' : EntsOk w ok ents es := ⟨by have := hE.1; simpa using this, fun i e' p' he hp => hE.2 (i + 1) e' p' (by simpa using he) (by simpa using hp)⟩
    cases hb : keyEq x p.1 with
    | true => exact ⟨some (i0, e.val), by simp [Instr.findAsking, heq, hb], by simp [mhas, hb]; exact h2⟩
    | false =>
      obtain ⟨r, hr, hm⟩ := find_asking ht hx ha ents es (i0 + 1) hE' fun e he => hk e (by simp [he])
      refine ⟨r, by simp [Instr.findAsking, heq, hb, hr], ?_⟩
      cases r with
      | none => simpa [mhas, hb] using hm
      | some q => simpa [mhas, hb] using hm

theorem find_now {k : IntKind} {n : Int} : ∀ (ents : List MapEntry) (es : List (D × D)) (i0 : Nat), EntsOk w ok ents es → (∀ e ∈ es, keyOk (.one k) e.1) →
    ∃ r, Instr.findNow (.int k) (.int k n) ents i0 = some r ∧ (match r with
      | some (_, v) => mhas es (.int k n) = true ∧ ∃ p, es.find? (fun e => keyEq (.int k n) e.1) = some p ∧ RepV w ok v p.2
      | none => mhas es (.int k n) = false ∧ es.find? (fun e => keyEq (.int k n) e.1) = none)
  | [], es, i0, hE, hk => by
    have : es = [] := List.length_eq_zero_iff.1 hE.1.symm
    subst this
    exact ⟨none, by simp [Instr.findNow], by simp [mhas]⟩
  | e :: ents, [], i0, hE, hk => by have := hE.1; simp at this
  | e :: ents, p :: es, i0, hE, hk => by
    obtain ⟨h1, h2⟩ := hE.2 0 e p rfl rfl
    have hE' : EntsOk w ok ents es := ⟨by have := hE.1; simpa using this, fun i e' p' he hp => hE.2 (i + 1) e' p' (by simpa using he) (by simpa using hp)⟩
    obtain ⟨p1, p2⟩ := p
    have hp1 := hk (p1, p2) (by simp)
    cases p1 <;> simp only [keyOk] at hp1 <;> try exact hp1.elim
    rename_i k' m
    subst hp1
    have hkey := h1.inv_int
    cases hb : (n == m) with
    | true => exact ⟨some (i0, e.val), by simp [Instr.findNow, hkey, Instr.sameNow, hb], by simp [mhas, keyEq, hb]; exact h2⟩
    | false =>
      obtain ⟨r, hr, hm⟩ := find_now (k := k') (n := n) ents es (i0 + 1) hE' fun e he => hk e (by simp [he])
      refine ⟨r, by simp [Instr.findNow, hkey, Instr.sameNow, hb, hr], ?_⟩
      cases r with
      | none => simpa [mhas, keyEq, hb] using hm
      | some q => simpa [mhas, keyEq, hb] using hm

/-- A key is looked for. -/
theorem find_key {kt : TypeId} {kk : KK} {a : Value} {x : D} (ht : tKey P kt = some kk) (hx : keyOk kk x) (ha : RepV w ok a x) (ents : List MapEntry) (es : List (D × D)) (hE : EntsOk w ok ents es) (hk : ∀ e ∈ es, keyOk kk e.1) :
    ∃ r, (Instr.findKey kt a ents).run P w = .ok r w ∧ (match r with
      | some (_, v) => mhas es x = true ∧ ∃ p, es.find? (fun e => keyEq x e.1) = some p ∧ RepV w ok v p.2
      | none => mhas es x = false ∧ es.find? (fun e => keyEq x e.1) = none) := by
  have ht0 := ht
  unfold tKey at ht
  split at ht
  · rename_i k hu
    simp only [Option.some.injEq] at ht; subst ht
    cases x <;> simp only [keyOk] at hx <;> try exact hx.elim
    subst hx
    rename_i k' n
    obtain ⟨r, hr, hm⟩ := find_now (n := n) ents es 0 hE hk
    refine ⟨r, ?_, hm⟩
    rw [ha.inv_int]
    exact Go.MapKept.run_findKey hu hr
  · rename_i n e hu
    obtain ⟨r, hr, hm⟩ := find_asking ht0 hx ha ents es 0 hE hk
    refine ⟨r, ?_, hm⟩
    rw [run_findKey_eq w (by rw [hu]) a ents]
    exact hr
  · cases ht
end

section
variable {P : Program} {c : Ctx} {σ : AS} {ρ : Nat → Value} {w : World} {vs : List Value} {xs : List AV} {loc : Nat → Option (Nat × Nat)}

theorem tMapI_und {t : TypeId} {kk : KK} {ik : IntKind} (h : tMapI P t = some (kk, ik)) : ∃ kt et, P.underlying t = some (.map kt et) ∧ tKey P kt = some kk ∧ (∀ w : World, (zeroValue et).run P w = .ok (.int ik 0) w) := by
  unfold tMapI at h
  split at h
  · rename_i kt et hu
    split at h
    · rename_i kk' ik' h1 h2
      simp only [Option.some.injEq, Prod.mk.injEq] at h
      obtain ⟨rfl, rfl⟩ := h
      refine ⟨kt, et, hu, h1, fun w => ?_⟩
      simp only [Option.bind_eq_some_iff] at h2
      obtain ⟨i, g1, g2⟩ := h2
      simp [zeroValue, typeInfo, g1, g2]
    · cases h
  · cases h

/-- A new map. -/
theorem RepL.makeMap (h : RepL P c σ ρ w vs xs loc) (k : Nat) (hf : σ.free k) (t : TypeId) :
    ∃ v w' loc', (Instr.makeMap t none).run P w = .ok v w' ∧ RepL P c (σ.new k (.mb [])) ρ w' vs xs loc' ∧ RepA P w' (okOf c w' (σ.new k (.mb [])).hp loc') loc' v (.mp k) := by
  refine ⟨.map (some w.heap.size), w.alloc (.map #[] 0), upd loc k (some (w.heap.size, 0)), ?_, ?_, .mp (by simp [upd])⟩
  · rfl
  · exact h.new k hf _ _ 0 (.mb (by simp [upd]) (heap_alloc_new w _) rfl fun i e p he => by simp at he)

/-- A key of the map. -/
theorem RepL.mapGet (h : RepL P c σ ρ w vs xs loc) {id : Nat} {es : List (D × D)} (hid : σ.hp.heap id = some (.mb es)) {t : TypeId} {kk : KK} {ik : IntKind} (ht : tMapI P t = some (kk, ik)) {vm vk : Value} {kd : D}
    (hm : RepA P w (okOf c w σ.hp loc) loc vm (.mp id)) (hk : RepA P w (okOf c w σ.hp loc) loc vk (.d kd)) (h1 : keyOk kk kd) (h2 : ∀ e ∈ es, keyOk kk e.1) (cok : Bool) :
    ∃ v, (Instr.lookup t vm vk cok).run P w = .ok v w ∧ RepA P w (okOf c w σ.hp loc) loc v (if cok then .tp [.d (mget ik es kd), .d (.bool (mhas es kd))] else .d (mget ik es kd)) := by
  obtain ⟨kt, et, hu, hkt, hz⟩ := tMapI_und ht
  cases hm with | @mp _ b hl =>
  cases h.heap id _ hid with | @mb b' clock ents _ hl' hb hsz hE =>
  rw [hl] at hl'; simp only [Option.some.injEq, Prod.mk.injEq, and_true] at hl'; subst hl'
  cases hk with | d hk =>
  have hEnt : EntsOk w (okOf c w σ.hp loc) ents.toList es := ⟨by simpa using hsz, fun i e p he hp => hE i e p (by simpa using he) hp⟩
  obtain ⟨r, hr, hm⟩ := find_key hkt h1 hk ents.toList es hEnt h2
  have hck := key_check (P := P) (w := w) hkt h1 hk ents.isEmpty
  have hget : (getObj b).run P w = .ok (.map ents clock) w := Go.MapKept.run_getObj_map hb
  cases r with
  | none =>
    obtain ⟨m1, m2⟩ := hm
    refine ⟨if cok then .tuple #[.int ik 0, .bool false] else .int ik 0, ?_, ?_⟩
    · simp only [Instr.lookup, Sem.run_bind, run_underlying hu, Result.andThen_ok, hget, Sem.run_pure, hck, hr, hz w]
    · have e1 : mget ik es kd = .int ik 0 := by simp [mget, m2]
      rw [e1, m1]
      cases cok with
      | false => exact .int _ _
      | true =>
        refine .tp rfl fun i v y hv hy => ?_
        match i with
        | 0 => simp at hv hy; subst hv; subst hy; exact .int _ _
        | 1 => simp at hv hy; subst hv; subst hy; exact .bool _
        | i + 2 => simp at hy
  | some q =>
    obtain ⟨i, u⟩ := q
    obtain ⟨m1, p, m2, m3⟩ := hm
    refine ⟨if cok then .tuple #[u, .bool true] else u, ?_, ?_⟩
    · simp only [Instr.lookup, Sem.run_bind, run_underlying hu, Result.andThen_ok, hget, Sem.run_pure, hck, hr]
    · have e1 : mget ik es kd = p.2 := by simp [mget, m2]
      rw [e1, m1]
      cases cok with
      | false => exact .d m3
      | true =>
        refine .tp rfl fun i v y hv hy => ?_
        match i with
        | 0 => simp at hv hy; subst hv; subst hy; exact .d m3
        | 1 => simp at hv hy; subst hv; subst hy; exact .bool _
        | i + 2 => simp at hy

/-- A further key. -/
theorem RepL.mapPut (h : RepL P c σ ρ w vs xs loc) {id : Nat} {es : List (D × D)} (hid : σ.hp.heap id = some (.mb es)) {t : TypeId} {kk : KK} {ik : IntKind} (ht : tMapI P t = some (kk, ik)) {vm vk vx : Value} {kd xd : D}
    (hm : RepA P w (okOf c w σ.hp loc) loc vm (.mp id)) (hk : RepA P w (okOf c w σ.hp loc) loc vk (.d kd)) (hx : RepA P w (okOf c w σ.hp loc) loc vx (.d xd)) (h1 : keyOk kk kd) (h2 : ∀ e ∈ es, keyOk kk e.1) (h3 : mhas es kd = false) :
    ∃ w', (Instr.mapUpdate t vm vk vx).run P w = .ok () w' ∧ RepL P c { σ with hp := σ.hp.set id (.mb (es ++ [(kd, xd)])) } ρ w' vs xs loc := by
  obtain ⟨kt, et, hu, hkt, hz⟩ := tMapI_und ht
  cases hm with | @mp _ b hl =>
  cases h.heap id _ hid with | @mb b' clock ents _ hl' hb hsz hE =>
  have hlb := hl
  rw [hl] at hl'; simp only [Option.some.injEq, Prod.mk.injEq, and_true] at hl'; subst hl'
  cases hk with | d hk =>
  cases hx with | d hx =>
  have hEnt : EntsOk w (okOf c w σ.hp loc) ents.toList es := ⟨by simpa using hsz, fun i e p he hp => hE i e p (by simpa using he) hp⟩
  obtain ⟨r, hr, hm⟩ := find_key hkt h1 hk ents.toList es hEnt h2
  have hck := key_check (P := P) (w := w) hkt h1 hk false
  have hget : (getObj b).run P w = .ok (.map ents clock) w := Go.MapKept.run_getObj_map hb
  cases r with
  | some q =>
    obtain ⟨i, u⟩ := q
    obtain ⟨m1, _⟩ := hm
    rw [h3] at m1; cases m1
  | none =>
    have hset := Go.MapKept.run_setObj_map (P := P) (.map (ents.push { key := vk, val := vx, born := clock }) (clock + 1)) hb
    obtain ⟨s1, s2⟩ := Go.MapKept.heap_set (o' := .map (ents.push { key := vk, val := vx, born := clock }) (clock + 1)) hb
    refine ⟨{ w with heap := w.heap.setIfInBounds b (.map (ents.push { key := vk, val := vx, born := clock }) (clock + 1)) }, by simp only [Instr.mapUpdate, Sem.run_bind, run_underlying hu, Result.andThen_ok, hget, hck, hr, hset], ?_⟩
    have hlive : Live σ.hp id := by simp [Live, hid]
    refine h.write id b 0 _ hlive hlb (fun n cc T fz hn => ?_) ⟨rfl, rfl, rfl⟩ (by simp) (fun n hn => s2 n hn) fun hkk => ?_
    · have hne : n ≠ b := fun e => by rw [e, hb] at hn; cases hn
      exact ⟨cc, T, fz, (s2 n hne).trans hn, rfl⟩
    · refine .mb hlb s1 (by simp [hsz]) fun i e p he hp => ?_
      rcases Nat.lt_or_ge i ents.size with hi | hi
      · rw [Array.getElem?_push_lt hi] at he
        rw [List.getElem?_append_left (by omega)] at hp
        have := hE i e p (by rw [Array.getElem?_eq_getElem hi]; exact he) hp
        exact ⟨this.1.mono hkk, this.2.mono hkk⟩
      · rw [List.getElem?_append_right (by omega)] at hp
        have hi2 : i = ents.size := by
          have := (Array.getElem?_eq_some_iff.1 he).1
          simp at this; omega
        subst hi2
        rw [Array.getElem?_push_size] at he
        simp only [Option.some.injEq] at he; subst he
        rw [hsz, Nat.sub_self] at hp
        simp at hp; subst hp
        exact ⟨hk.mono hkk, hx.mono hkk⟩
end
end Go.Fw
