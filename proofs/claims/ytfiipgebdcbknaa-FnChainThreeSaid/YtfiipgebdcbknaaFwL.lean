/- A call by contract: the caller's state afterwards. -/
import Derived.Test.YtfiipgebdcbknaaFwK
set_option linter.unusedSimpArgs false
set_option linter.unusedVariables false
namespace Go.Fw
open Go

/-- Is this one of the 'n' numbers from 'base' on? -/
def inNew (base n id : Nat) : Bool := decide (base ≤ id ∧ id < base + n)
def posOf (id : Nat) : List (Nat × Blk) → Nat
  | [] => 0
  | (k, _) :: r => if id = k then 0 else posOf id r + 1
/-- Where the callee's numbers come to lie in the caller's state. -/
def renOf (g : Nat → Nat) (base : Nat) (res : List (Nat × Blk)) (id : Nat) : Nat := if id < 100 then g id else base + posOf id res

def setL (hp : HP) (E : List (Nat × Blk)) : HP := { hp with heap := fun id => match lookH E id with | some b => some b | none => hp.heap id }

/-- Numbers that are neither handed over nor new: struck in what comes back. -/
def outE (keys : List Nat) (res : List (Nat × Blk)) (id : Nat) : Bool := !(keys.contains id || (res.map Prod.fst).contains id)

def resE (g : Nat → Nat) (base : Nat) (keys : List Nat) (bs : List Blk) (res : List (Nat × Blk)) : List (Nat × Blk) :=
  ((keys.zip bs ++ res).map fun p => (renOf g base res p.1, (p.2.kp (outE keys res)).ren (renOf g base res)))

/-- What comes back, in the caller's numbers. -/
def AV.back (x : AV) (g : Nat → Nat) (base : Nat) (keys : List Nat) (res : List (Nat × Blk)) : AV := (x.kp (outE keys res)).ren (renOf g base res)

/-- The caller's state behind a call. -/
def AS.after (σ : AS) (g : Nat → Nat) (base : Nat) (dr : Bool) (view keys : List Nat) (bs : List Blk) (res : List (Nat × Blk)) : AS :=
  { sl := σ.sl, hp := setL (if dr then σ.hp.dropL view else σ.hp) (resE g base keys bs res), used := fun id => inNew base res.length id || σ.used id }

theorem lookH_some {E : List (Nat × Blk)} {id : Nat} {b : Blk} (h : lookH E id = some b) : (id, b) ∈ E := by
  induction E with
  | nil => cases h
  | cons p r ih =>
    obtain ⟨k, b'⟩ := p
    simp only [lookH] at h
    split at h
    · rename_i he; subst he; simp only [Option.some.injEq] at h; subst h; simp
    · exact List.mem_cons_of_mem _ (ih h)

theorem lookH_mem {E : List (Nat × Blk)} {id : Nat} {b : Blk} (h : (id, b) ∈ E) (hn : (E.map Prod.fst).Nodup) : lookH E id = some b := by
  induction E with
  | nil => simp at h
  | cons p r ih =>
    obtain ⟨k, b'⟩ := p
    simp only [List.map_cons, List.nodup_cons] at hn
    simp only [lookH]
    rcases List.mem_cons.1 h with h1 | h1
    · simp only [Prod.mk.injEq] at h1; obtain ⟨rfl, rfl⟩ := h1; simp
    · have : id ≠ k := fun he => hn.1 (he ▸ List.mem_map_of_mem (f := Prod.fst) h1)
      rw [if_neg this]; exact ih h1 hn.2

theorem lookH_none {E : List (Nat × Blk)} {id : Nat} (h : lookH E id = none) : ∀ b, (id, b) ∉ E := by
  intro b hb
  induction E with
  | nil => simp at hb
  | cons p r ih =>
    obtain ⟨k, b'⟩ := p
    simp only [lookH] at h
    split at h
    · cases h
    · rename_i hne
      rcases List.mem_cons.1 hb with h1 | h1
      · simp only [Prod.mk.injEq] at h1; exact hne h1.1
      · exact ih h h1

theorem posOf_lt {id : Nat} {res : List (Nat × Blk)} (h : ∃ b, (id, b) ∈ res) : posOf id res < res.length ∧ ∃ b, res[posOf id res]? = some (id, b) := by
  induction res with
  | nil => obtain ⟨b, hb⟩ := h; simp at hb
  | cons p r ih =>
    obtain ⟨k, b'⟩ := p
    obtain ⟨b, hb⟩ := h
    simp only [posOf]
    by_cases he : id = k
    · subst he; rw [if_pos rfl]; exact ⟨by simp, b', rfl⟩
    · rw [if_neg he]
      have : (id, b) ∈ r := by
        rcases List.mem_cons.1 hb with h1 | h1
        · simp only [Prod.mk.injEq] at h1; exact absurd h1.1 he
        · exact h1
      obtain ⟨g1, b2, g2⟩ := ih ⟨b, this⟩
      exact ⟨by simp; omega, b2, by simpa using g2⟩

section
variable {P : Program} {c : Ctx} {σ : AS} {ρ : Nat → Value} {w w' : World} {loc : Nat → Option (Nat × Nat)}

theorem RepL.call {f : FuncId} {vals : List Value} {as args : List AV} {hs : List (Nat × Blk)} {K : AV → List Blk → List (Nat × Blk) → Prop} (h : RepL P c σ ρ w vals as loc)
    (view : List Nat) (g : Nat → Nat) (base : Nat) (h100 : 100 ≤ base)
    (hfit : args.length = as.length)
    (hconv : ∀ (i : Nat) a b v, args[i]? = some a → as[i]? = some b → RepA P w (okOf c w σ.hp loc) loc v b → RepA P w (okOf c w (σ.hp.dropL view) loc) (fun q => loc (g q)) v a)
    (hg0 : ∀ q, q ∉ hs.map Prod.fst → g q = 0)
    (hhs : ∀ q blk, (q, blk) ∈ hs → (0 < q ∧ q < 100) ∧ g q ∉ view ∧ σ.hp.heap (g q) = some (blk.ren g))
    (hnd : (hs.map Prod.fst).Nodup)
    (hginj : ∀ q q', q ∈ hs.map Prod.fst → q' ∈ hs.map Prod.fst → g q = g q' → q = q')
    (hcall : ACalls P f args hs K) :
    Calls P f vals.toArray w fun e w' => ∃ v x bs res, e = .returned v ∧ K x bs res ∧ bs.length = hs.length ∧
      (((res.map Prod.fst).Nodup ∧ (∀ j, j < res.length → σ.used (base + j) = false)) → ∀ dr : Bool,
        (dr = true ∨ view = [] ∨ (x.flatR = true ∧ (bs.all Blk.flatR = true) ∧ res.all (fun p => p.2.flatR) = true)) →
        ∃ loc', RepL P c (σ.after g base dr view (hs.map Prod.fst) bs res) ρ w' [v] [x.back g base (hs.map Prod.fst) res] loc') := by
  have hlive : ∀ q, q ∈ hs.map Prod.fst → Live σ.hp (g q) ∧ Live (σ.hp.dropL view) (g q) ∧ (0 < q ∧ q < 100) := fun q hq => by
    obtain ⟨⟨q', blk⟩, hm, rfl⟩ := List.mem_map.1 hq
    obtain ⟨h1, h2, h3⟩ := hhs _ _ hm
    exact ⟨by simp [Live, h3], by simp [Live, dropL_heap, h2, h3], h1⟩
  have hkd : (hs.map Prod.fst).Nodup := hnd
  let c' : Ctx := { w0 := w, ok0 := okOf c w (σ.hp.dropL view) loc, md := fun b => ∃ q δ, q ∈ hs.map Prod.fst ∧ loc (g q) = some (b, δ), floc := fun q => loc (g q), zero := by
                      have h0 : (0 : Nat) ∉ hs.map Prod.fst := fun hq => by have := (hlive 0 hq).2.2.1; omega
                      rw [hg0 0 h0, h.fix 0 (by omega)]; exact c.zero,
                    lt := fun b hb => hb.1, apart := fun b hb ⟨q, δ, hq, he⟩ => hb.2.2 (g q) δ (hlive q hq).2.1 he }
  have hok : ∀ b, okOf c w (σ.hp.dropL view) loc b → okOf c' w (hpOf hs) (fun q => loc (g q)) b := fun b hb =>
    ⟨hb.1, .inl hb, fun q δ hl he => by
      have hq : q ∈ hs.map Prod.fst := by
        cases hlk : lookH hs q with
        | none => simp [Live, hpOf, hlk] at hl
        | some blk => exact List.mem_map_of_mem (f := Prod.fst) (lookH_some hlk)
      exact hb.2.2 (g q) δ (hlive q hq).2.1 he⟩
  have hpre : RepL P c' (st hs) (fun _ => undef) w vals args (fun q => loc (g q)) := by
    refine ⟨fun s => .unk _, by rw [h.len, hfit], fun i v x hv hx => ?_, fun q blk hq => ?_, fun q q' b δ δ' l1 l2 e1 e2 => ?_, fun q b δ l1 e1 => ?_, ⟨rfl, rfl, rfl, Nat.le_refl _, fun _ _ _ => rfl, Shapes.refl w⟩, fun _ _ => rfl, fun q hq => ?_, fun q hl => ?_⟩
    · have hlt : i < as.length := by have := (List.getElem?_eq_some_iff.1 hx).1; omega
      have := hconv i x as[i] v hx (List.getElem?_eq_getElem hlt) (h.vals i v _ hv (List.getElem?_eq_getElem hlt))
      exact this.mono (fun b hb => ⟨hok b hb, rfl⟩) (Shapes.refl w)
    · have hm := lookH_some hq
      obtain ⟨h1, h2, h3⟩ := hhs _ _ hm
      exact ((h.heap _ _ h3).unren g).mono (fun b hb => ⟨hok b (hb.dropL view), rfl⟩) (Shapes.refl w) fun _ _ _ => rfl
    · have m : ∀ q, Live (hpOf hs) q → q ∈ hs.map Prod.fst := fun q hl => by
        cases hlk : lookH hs q with
        | none => simp [Live, hpOf, hlk] at hl
        | some blk => exact List.mem_map_of_mem (f := Prod.fst) (lookH_some hlk)
      exact hginj q q' (m q l1) (m q' l2) (h.inj _ _ b δ δ' (hlive q (m q l1)).1 (hlive q' (m q' l2)).1 e1 e2)
    · have hq : q ∈ hs.map Prod.fst := by
        cases hlk : lookH hs q with
        | none => simp [st, Live, hpOf, hlk] at l1
        | some blk => exact List.mem_map_of_mem (f := Prod.fst) (lookH_some hlk)
      exact ⟨(h.own _ b δ (hlive q hq).1 e1).1, fun ho => ho.2.2 (g q) δ (hlive q hq).2.1 e1, .inr ⟨q, δ, hq, e1⟩⟩
    · simp only [st, Bool.or_eq_false_iff, decide_eq_false_iff_not] at hq
      have hn : q ∉ hs.map Prod.fst := fun hm => hq.1 (hlive q hm).2.2.2
      rw [hg0 q hn, h.fix 0 (by omega)]; exact c.zero
    · simp only [st, Bool.or_eq_true]
      refine .inr ?_
      cases hlk : lookH hs q with
      | none => simp [st, Live, hpOf, hlk] at hl
      | some blk => rfl
  refine (hcall c' vals hpre).mono fun e w' ⟨v, x, bs, res, l2, he, hK, hbl, hres, hpost⟩ => ⟨v, x, bs, res, he, hK, hbl, fun ⟨hrn, hfresh⟩ dr hdr => ?_⟩
  -- where the numbers lie afterwards
  let locs : Nat → Option (Nat × Nat) := fun id => if inNew base res.length id = true then (match res[id - base]? with | some p => l2 p.1 | none => none) else loc id
  have hnewU : ∀ id, σ.used id = true → inNew base res.length id = false := fun id hu => by
    cases hi : inNew base res.length id with
    | false => rfl
    | true =>
      simp only [inNew, decide_eq_true_eq] at hi
      have := hfresh (id - base) (by omega)
      rw [show base + (id - base) = id by omega, hu] at this; cases this
  have hnew : ∀ q, q ∈ hs.map Prod.fst → inNew base res.length (g q) = false := fun q hq => hnewU _ (h.liveU _ (hlive q hq).1)
  have hfix : ∀ q, q < 100 → l2 q = loc (g q) := fun q hq => hpost.fix q hq
  have hext := hpost.ext
  have lkeys : ∀ id, inNew base res.length id = false → locs id = loc id := fun id hid => by simp only [locs, hid, Bool.false_eq_true, if_false]
  have lnew : ∀ (j : Nat) (p : Nat × Blk), res[j]? = some p → locs (base + j) = l2 p.1 := fun j p hp => by
    have hj : j < res.length := (List.getElem?_eq_some_iff.1 hp).1
    have : inNew base res.length (base + j) = true := by simp [inNew]; omega
    simp only [locs, this, if_true, Nat.add_sub_cancel_left, hp]
  let keys := hs.map Prod.fst
  let l3 : Nat → Option (Nat × Nat) := fun id => if outE keys res id = true then none else l2 id
  have hin : ∀ id, outE keys res id = false → id ∈ keys ∨ ∃ b, (id, b) ∈ res := fun id ho => by
    simp only [outE, Bool.not_eq_false', Bool.or_eq_true, List.contains_iff_mem] at ho
    rcases ho with h1 | h1
    · exact .inl h1
    · obtain ⟨⟨k, b⟩, hm, rfl⟩ := List.mem_map.1 h1
      exact .inr ⟨b, hm⟩
  have l3e : ∀ id, outE keys res id = false → l3 id = l2 id := fun id ho => by simp only [l3, ho, Bool.false_eq_true, if_false]
  have hren' : ∀ id, outE keys res id = false → locs (renOf g base res id) = l2 id := fun id ho => by
    unfold renOf
    rcases hin id ho with h1 | ⟨b, h1⟩
    · have := (hlive id h1).2.2.2
      rw [if_pos this, lkeys _ (hnew id h1)]; exact (hfix id this).symm
    · have := hres _ h1
      rw [if_neg (by omega)]
      obtain ⟨_, b', g2⟩ := posOf_lt ⟨b, h1⟩
      rw [lnew _ _ g2]
  have hren : ∀ id q, l3 id = some q → locs (renOf g base res id) = some q := fun id q hq => by
    have ho : outE keys res id = false := by
      cases ho : outE keys res id with
      | false => rfl
      | true => simp only [l3, ho, if_true] at hq; cases hq
    rw [hren' id ho, ← l3e id ho]; exact hq
  -- the entries of the heap afterwards
  have hE : ∀ id blk, lookH (resE g base keys bs res) id = some blk → ∃ q b0, (q, b0) ∈ keys.zip bs ++ res ∧ id = renOf g base res q ∧ blk = (b0.kp (outE keys res)).ren (renOf g base res) ∧ outE keys res q = false := by
    intro id blk hl
    have := lookH_some hl
    simp only [resE, List.mem_map, Prod.mk.injEq] at this
    obtain ⟨⟨q, b0⟩, hm, rfl, rfl⟩ := this
    refine ⟨q, b0, hm, rfl, rfl, ?_⟩
    simp only [outE, Bool.not_eq_false', Bool.or_eq_true, List.contains_iff_mem]
    rcases List.mem_append.1 hm with h1 | h1
    · exact .inl (List.of_mem_zip h1).1
    · exact .inr (List.mem_map_of_mem (f := Prod.fst) h1)
  have hzl : (keys.zip bs ++ res).map Prod.fst = keys ++ res.map Prod.fst := by
    rw [List.map_append, List.map_fst_zip (by simp [keys, hbl])]
  have hnodup : ((keys.zip bs ++ res).map Prod.fst).Nodup := by
    rw [hzl, List.nodup_append]
    refine ⟨hkd, hrn, fun a ha b hb => ?_⟩
    have h1 := (hlive a ha).2.2.2
    obtain ⟨⟨k, b'⟩, hm, rfl⟩ := List.mem_map.1 hb
    have h2 := hres _ hm
    intro he; subst he; omega
  have hpl : ∀ q b0, (q, b0) ∈ keys.zip bs ++ res → (hpOf (keys.zip bs ++ res)).heap q = some b0 := fun q b0 hm => lookH_mem hm hnodup
  have hEk : ∀ q, q ∈ keys → lookH (resE g base keys bs res) (g q) ≠ none := fun q hq hn => by
    have hq1 : q ∈ (keys.zip bs ++ res).map Prod.fst := by rw [hzl]; simp [hq]
    obtain ⟨⟨k, b0⟩, hm, rfl⟩ := List.mem_map.1 hq1
    have h1 := lookH_none hn ((b0.kp (outE keys res)).ren (renOf g base res))
    apply h1
    simp only [resE, List.mem_map, Prod.mk.injEq]
    exact ⟨_, hm, by simp only [renOf, (hlive k hq).2.2.2, if_true], rfl⟩
  have hEn : ∀ id, inNew base res.length id = true → lookH (resE g base keys bs res) id ≠ none := fun id hid hn => by
    simp only [inNew, decide_eq_true_eq] at hid
    have hj : id - base < res.length := by omega
    have hm : res[id - base] ∈ keys.zip bs ++ res := List.mem_append_right _ (List.getElem_mem hj)
    have h1 := lookH_none hn ((res[id - base].2.kp (outE keys res)).ren (renOf g base res))
    apply h1
    simp only [resE, List.mem_map, Prod.mk.injEq]
    refine ⟨_, hm, ?_, rfl⟩
    have hge := hres _ (List.getElem_mem hj)
    obtain ⟨p1, b', p2⟩ := posOf_lt (id := res[id - base].1) ⟨res[id - base].2, List.getElem_mem hj⟩
    have : posOf res[id - base].1 res = id - base := by
      have e1 : (res.map Prod.fst)[posOf res[id - base].1 res]? = (res.map Prod.fst)[id - base]? := by
        rw [List.getElem?_map, p2, List.getElem?_map, List.getElem?_eq_getElem hj]; rfl
      exact (List.getElem?_inj (by simpa using p1) hrn).1 e1
    rw [renOf, if_neg (by omega), this]; omega
  let hp1 : HP := if dr then σ.hp.dropL view else σ.hp
  let hp2 : HP := (σ.after g base dr view keys bs res).hp
  have hp2v : ∀ id, hp2.heap id = match lookH (resE g base keys bs res) id with | some b => some b | none => hp1.heap id := fun id => rfl
  have hp1l : ∀ id blk, hp1.heap id = some blk → σ.hp.heap id = some blk := fun id blk hb => by
    simp only [hp1] at hb
    split at hb
    · rw [dropL_heap] at hb; split at hb
      · cases hb
      · exact hb
    · exact hb
  -- a number that is live afterwards: one of the entries, or an elder one
  have hcase : ∀ id, Live hp2 id → (∃ q, outE keys res q = false ∧ id = renOf g base res q ∧ Live (hpOf (keys.zip bs ++ res)) q) ∨
      (lookH (resE g base keys bs res) id = none ∧ Live hp1 id ∧ Live σ.hp id ∧ inNew base res.length id = false ∧ ∀ q, q ∈ keys → id ≠ g q) := by
    intro id hl
    cases hlk : lookH (resE g base keys bs res) id with
    | some blk =>
      obtain ⟨q, b0, hm, h1, h2, h3⟩ := hE id blk hlk
      exact .inl ⟨q, h3, h1, by simp [Live, hpl q b0 hm]⟩
    | none =>
      refine .inr ⟨rfl, ?_, ?_, ?_, ?_⟩
      · simpa only [Live, hp2v, hlk] using hl
      · simp only [Live, hp2v, hlk] at hl ⊢
        cases h1 : hp1.heap id with
        | none => exact absurd h1 hl
        | some blk => rw [hp1l id blk h1]; simp
      · cases hi : inNew base res.length id with
        | false => rfl
        | true => exact absurd hlk (hEn id hi)
      · intro q hq he; exact hEk q hq (he ▸ hlk)
  have hother : ∀ b, b < w.heap.size → (∀ q δ, q ∈ keys → loc (g q) ≠ some (b, δ)) → w'.heap[b]? = w.heap[b]? := fun b hb hno =>
    hext.block b hb fun ⟨q, δ, hq, he⟩ => hno q δ hq he
  have hwz : w.heap.size ≤ w'.heap.size := hext.size
  -- data that the caller held
  have hk1 : ∀ b, okOf c w σ.hp loc b → okOf c w' hp2 locs b ∧ w'.heap[b]? = w.heap[b]? := by
    intro b hb
    refine ⟨⟨Nat.lt_of_lt_of_le hb.1 hwz, hb.2.1, fun id δ hl he1 => ?_⟩, hother b hb.1 fun q δ hq he1 => hb.2.2 (g q) δ (hlive q hq).1 he1⟩
    rcases hcase id hl with ⟨q, ho, rfl, hql⟩ | ⟨_, _, h3, h4, _⟩
    · rw [hren' q ho] at he1
      exact (hpost.own q b δ hql he1).2.1 (hb.dropL view)
    · rw [lkeys id h4] at he1; exact hb.2.2 id δ h3 he1
  -- data that came back
  have hk2 : (dr = true ∨ view = []) → ∀ b, okOf c' w' (hpOf (keys.zip bs ++ res)) l2 b → okOf c w' hp2 locs b := by
    intro hdv b ⟨b1, b2, b3⟩
    have hd : ∀ id, Live hp1 id → Live (σ.hp.dropL view) id := fun id hl => by
      simp only [hp1] at hl
      split at hl
      · exact hl
      · rename_i hdr'
        rcases hdv with h1 | h1
        · exact absurd h1 hdr'
        · subst h1; exact hl
    refine ⟨b1, ?_, fun id δ hl he1 => ?_⟩
    · rcases b2 with b2 | b2 | ⟨q, δ, hq, he1⟩
      · exact b2.2.1
      · exact .inr (.inl (Nat.le_trans h.ext.size b2))
      · exact .inr (h.own _ b δ (hlive q hq).1 he1).2.2
    · rcases hcase id hl with ⟨q, ho, rfl, hql⟩ | ⟨_, h2, h3, h4, h5⟩
      · rw [hren' q ho] at he1; exact b3 q δ hql he1
      · rw [lkeys id h4] at he1
        rcases b2 with b2 | b2 | ⟨q, δ', hq, he2⟩
        · exact b2.2.2 id δ (hd id h2) he1
        · have := (h.own id b δ h3 he1).1
          have hb2 : w.heap.size ≤ b := b2
          omega
        · exact h5 q hq (h.inj id (g q) b δ δ' h3 (hlive q hq).1 he1 he2)
  have lext : ∀ id q, loc id = some q → locs id = some q := fun id q hq => by
    have hu : σ.used id = true := by
      cases hu : σ.used id with
      | true => rfl
      | false => rw [h.dom id hu] at hq; cases hq
    rw [lkeys id (hnewU id hu)]; exact hq
  have hl3 : ∀ id, outE keys res id = false → l3 id = l2 id := l3e
  have hsh : Shapes w' w' := Shapes.refl w'
  have back : ∀ {u y}, RepA P w' (okOf c' w' (hpOf (keys.zip bs ++ res)) l2) l2 u y → RepA P w' (okOf c' w' (hpOf (keys.zip bs ++ res)) l2) locs u ((y.kp (outE keys res)).ren (renOf g base res)) := fun hr =>
    (hr.mono_kp (fun b hb => ⟨hb, rfl⟩) hsh (outE keys res) hl3).ren _ hren
  have hshape : Shapes w w' := hext.shape
  refine ⟨locs, ?_, rfl, fun i u y hu hy => ?_, fun id blk hid => ?_, fun id id' b δ δ' m1 m2 e1 e2 => ?_, fun id b δ m1 e1 => ?_, ⟨?_, ?_, ?_, ?_, ?_, ?_⟩, fun id hid => ?_, fun id hid => ?_, fun id hl => ?_⟩
  · intro s
    exact (h.slots s).mono_ext hk1 hshape lext
  · cases i with
    | succ i => simp at hu
    | zero =>
      simp only [List.getElem?_cons_zero, Option.some.injEq] at hu hy
      subst hu; subst hy
      have hv := hpost.vals 0 v x rfl rfl
      rcases hdr with h1 | h1 | ⟨h1, _⟩
      · exact (back hv).mono (fun b hb => ⟨hk2 (.inl h1) b hb, rfl⟩) hsh
      · exact (back hv).mono (fun b hb => ⟨hk2 (.inr h1) b hb, rfl⟩) hsh
      · exact ((hv.flatR (ok' := okOf c w' hp2 locs) h1).mono_kp (fun b hb => ⟨hb, rfl⟩) hsh (outE keys res) hl3).ren _ hren
  · change hp2.heap id = some blk at hid
    rw [hp2v] at hid
    cases hlk : lookH (resE g base keys bs res) id with
    | some blk' =>
      rw [hlk] at hid
      simp only [Option.some.injEq] at hid; subst hid
      obtain ⟨q, b0, hm, rfl, rfl, ho⟩ := hE id _ hlk
      have hb := hpost.heap q b0 (hpl q b0 hm)
      have hnone : l3 q = none → locs (renOf g base res q) = none := fun hn => by rw [hren' q ho, ← l3e q ho]; exact hn
      have conv : ∀ ok', RepB P w' ok' l2 q b0 → RepB P w' ok' locs (renOf g base res q) ((b0.kp (outE keys res)).ren (renOf g base res)) := fun ok' hb' =>
        (hb'.mono_kp (fun b hb => ⟨hb, rfl⟩) hsh (outE keys res) ho hl3 fun _ _ _ => rfl).ren _ hren hnone
      rcases hdr with h1 | h1 | ⟨_, h1, h2⟩
      · exact (conv _ hb).mono (fun b hb => ⟨hk2 (.inl h1) b hb, rfl⟩) hsh fun _ _ _ => rfl
      · exact (conv _ hb).mono (fun b hb => ⟨hk2 (.inr h1) b hb, rfl⟩) hsh fun _ _ _ => rfl
      · refine conv _ (hb.flatR ?_)
        rcases List.mem_append.1 hm with h3 | h3
        · exact List.all_eq_true.1 h1 b0 (List.of_mem_zip h3).2
        · exact List.all_eq_true.1 h2 (q, b0) h3
    | none =>
      rw [hlk] at hid
      have hb' : hp1.heap id = some blk := hid
      have hlv : Live hp2 id := by simp only [Live, hp2v, hlk, hb']; simp
      rcases hcase id hlv with ⟨q, ho, rfl, hql⟩ | ⟨_, h2, h3, h4, h5⟩
      · exfalso
        have : ∃ b0, (q, b0) ∈ keys.zip bs ++ res := by
          cases hl0 : lookH (keys.zip bs ++ res) q with
          | none => simp [Live, hpOf, hl0] at hql
          | some b0 => exact ⟨b0, lookH_some hl0⟩
        obtain ⟨b0, hm⟩ := this
        refine lookH_none hlk ((b0.kp (outE keys res)).ren (renOf g base res)) ?_
        simp only [resE, List.mem_map, Prod.mk.injEq]
        exact ⟨_, hm, rfl, rfl⟩
      · refine (h.heap id blk (hp1l id blk hb')).mono_ext hk1 hshape lext (lkeys id h4) fun b δ he1 => hother b (h.own id b δ h3 he1).1 fun q δ' hq he2 => ?_
        exact h5 q hq (h.inj id (g q) b δ δ' h3 (hlive q hq).1 he1 he2)
  · rcases hcase id m1 with ⟨q, ho, rfl, hql⟩ | ⟨_, _, h3, h4, h5⟩ <;> rcases hcase id' m2 with ⟨q', ho', rfl, hql'⟩ | ⟨_, _, h3', h4', h5'⟩
    · rw [hren' q ho] at e1; rw [hren' q' ho'] at e2
      rw [hpost.inj q q' b δ δ' hql hql' e1 e2]
    · exfalso
      rw [hren' q ho] at e1; rw [lkeys id' h4'] at e2
      have hb := (h.own id' b δ' h3' e2).1
      rcases (hpost.own q b δ hql e1).2.2 with h6 | ⟨q2, δ2, hq2, h6⟩
      · have h6' : w.heap.size ≤ b := h6
        omega
      · exact h5' q2 hq2 (h.inj id' (g q2) b δ' δ2 h3' (hlive q2 hq2).1 e2 h6)
    · exfalso
      rw [hren' q' ho'] at e2; rw [lkeys id h4] at e1
      have hb := (h.own id b δ h3 e1).1
      rcases (hpost.own q' b δ' hql' e2).2.2 with h6 | ⟨q2, δ2, hq2, h6⟩
      · have h6' : w.heap.size ≤ b := h6
        omega
      · exact h5 q2 hq2 (h.inj id (g q2) b δ δ2 h3 (hlive q2 hq2).1 e1 h6)
    · rw [lkeys id h4] at e1; rw [lkeys id' h4'] at e2
      exact h.inj id id' b δ δ' h3 h3' e1 e2
  · rcases hcase id m1 with ⟨q, ho, rfl, hql⟩ | ⟨_, _, h3, h4, h5⟩
    · rw [hren' q ho] at e1
      obtain ⟨o1, o2, o3⟩ := hpost.own q b δ hql e1
      rcases o3 with o3 | ⟨q2, δ2, hq2, o3⟩
      · have o3' : w.heap.size ≤ b := o3
        have := h.ext.size
        exact ⟨o1, fun hc => by have := c.lt b hc; omega, .inl (by omega)⟩
      · exact ⟨o1, (h.own _ b δ2 (hlive q2 hq2).1 o3).2⟩
    · rw [lkeys id h4] at e1
      obtain ⟨o1, o2, o3⟩ := h.own id b δ h3 e1
      exact ⟨Nat.lt_of_lt_of_le o1 hwz, o2, o3⟩
  · exact hext.os.trans h.ext.os
  · exact hext.tape.trans h.ext.tape
  · exact hext.output.trans h.ext.output
  · exact Nat.le_trans h.ext.size hwz
  · intro b hb hm
    rw [hother b (Nat.lt_of_lt_of_le hb h.ext.size) fun q δ hq he1 => ?_]
    · exact h.ext.block b hb hm
    · rcases (h.own _ b δ (hlive q hq).1 he1).2.2 with o3 | o3
      · omega
      · exact hm o3
  · exact h.ext.shape.trans hshape
  · have : inNew base res.length id = false := by simp [inNew]; omega
    rw [lkeys id this]; exact h.fix id hid
  · change (inNew base res.length id || σ.used id) = false at hid
    rw [Bool.or_eq_false_iff] at hid
    rw [lkeys id hid.1]; exact h.dom id hid.2
  · change (inNew base res.length id || σ.used id) = true
    rw [Bool.or_eq_true]
    rcases hcase id hl with ⟨q, ho, rfl, hql⟩ | ⟨_, _, h3, _, _⟩
    · rcases hin q ho with h1 | ⟨b, h1⟩
      · right
        have := (hlive q h1).2.2.2
        rw [renOf, if_pos this]; exact h.liveU _ (hlive q h1).1
      · left
        have := hres _ h1
        obtain ⟨p1, _⟩ := posOf_lt ⟨b, h1⟩
        rw [renOf, if_neg (by omega)]
        simp only [inNew, decide_eq_true_eq]; omega
    · exact .inr (h.liveU id h3)

end
end Go.Fw
