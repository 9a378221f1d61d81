/- Regions that draw their order: the schedule suffices. -/
import Derived.Test.YtfiipgebdcbknaaFwT
set_option linter.unusedSimpArgs false
set_option linter.unusedVariables false
namespace Go.Fw
open Go

def lst (L : Array Bool) (i : Nat) : Prop := L.getD i false = true

theorem ready_iff {ops : Array Oper} {L : Array Bool} (hsz : L.size = ops.size) {i : Nat} : i ∈ Region.ready .any ops L ↔ i < ops.size ∧ ¬ lst L i ∧ ∀ d ∈ depsOf ops i, lst L d := by
  rw [mem_ready]
  constructor
  · rintro ⟨h0, o, ho, hall⟩
    have hlt : i < ops.size := (Array.getElem?_eq_some_iff.1 ho).1
    refine ⟨hlt, ?_, fun d hd => ?_⟩
    · simp only [lst, Array.getD_eq_getD_getElem?] at *
      rw [Array.getElem?_eq_getElem (by omega)] at *
      simp at h0 ⊢; exact h0
    · simp only [depsOf, ho, List.mem_map, List.mem_filter, Array.mem_toList_iff] at hd
      obtain ⟨e, ⟨he, hb⟩, rfl⟩ := hd
      exact hall e he hb
  · rintro ⟨hlt, h0, hall⟩
    refine ⟨?_, ops[i], Array.getElem?_eq_getElem hlt, fun e he hb => hall e.on ?_⟩
    · simp only [lst, Array.getD_eq_getD_getElem?] at *
      rw [Array.getElem?_eq_getElem (by omega)] at *
      simp at h0 ⊢; exact h0
    · simp only [depsOf, Array.getElem?_eq_getElem hlt, List.mem_map, List.mem_filter, Array.mem_toList_iff]
      exact ⟨e, ⟨he, hb⟩, rfl⟩

theorem lst_set {L : Array Bool} {k i : Nat} (hk : k < L.size) : lst (L.setIfInBounds k true) i ↔ i = k ∨ lst L i := by
  simp only [lst]
  by_cases h : i = k
  · subst h; simp [hk]
  · rw [getD_set_ne false (Ne.symm h)]; simp [h]

def unl (ops : Array Oper) (L : Array Bool) : Nat := (List.range ops.size).countP fun i => !L.getD i false

theorem unl_set {ops : Array Oper} {L : Array Bool} (hsz : L.size = ops.size) {k : Nat} (hk : k < ops.size) (hu : ¬ lst L k) : unl ops (L.setIfInBounds k true) < unl ops L := by
  unfold unl
  have gen : ∀ l : List Nat, k ∈ l → l.countP (fun i => !(L.setIfInBounds k true).getD i false) < l.countP (fun i => !L.getD i false) ∧ True := by
    intro l
    have le : ∀ l : List Nat, l.countP (fun i => !(L.setIfInBounds k true).getD i false) ≤ l.countP (fun i => !L.getD i false) := fun l =>
      List.countP_mono_left fun i _ hi => by
        cases h : L.getD i false with
        | false => simp
        | true =>
          have := (lst_set (L := L) (k := k) (i := i) (by omega)).2 (.inr h)
          simp only [lst] at this
          rw [this] at hi; simp at hi
    induction l with
    | nil => intro h; simp at h
    | cons x r ih =>
      intro h
      refine ⟨?_, trivial⟩
      rw [List.countP_cons, List.countP_cons]
      by_cases hx : x = k
      · subst hx
        have h1 : (L.setIfInBounds x true).getD x false = true := (lst_set (L := L) (k := x) (i := x) (by omega)).2 (.inl rfl)
        have h2 : L.getD x false = false := by simpa [lst] using hu
        rw [h1, h2]
        have := le r
        simp only [Bool.not_true, Bool.false_eq_true, if_false, Bool.not_false, if_true]; omega
      · have h3 := (ih (by simpa [Ne.symm hx] using h)).1
        rw [getD_set_ne false (Ne.symm hx)]
        omega
  exact (gen _ (List.mem_range.2 hk)).1

structure Inv (ops : Array Oper) (Lp L : Array Bool) (dn pd : List Nat) : Prop where
  sz : L.size = ops.size
  szp : Lp.size = ops.size
  iff : ∀ i, lst Lp i ↔ lst L i ∨ i ∈ pd
  un : ∀ i ∈ pd, ¬ lst L i
  nd : pd.Nodup
  mem : ∀ i ∈ pd, i ∈ dn
  ok : ∀ i ∈ dn, pureOk ops i = true
  lt : ∀ i ∈ pd, i < ops.size
  cl : ∀ i, lst L i → ∀ d ∈ depsOf ops i, lst L d
  ord : ∀ l1 i l2, pd = l1 ++ i :: l2 → ∀ d ∈ depsOf ops i, lst L d ∨ d ∈ l1

theorem pureOk_spec {ops : Array Oper} {i : Nat} (h : pureOk ops i = true) : ∃ s, dstOf ops i = some s ∧ s ∉ looksOf ops i ∧ ∀ k, k ≠ i → dstOf ops k ≠ some s ∧ (s ∈ looksOf ops k → i ∈ depsOf ops k) := by
  unfold pureOk at h
  split at h
  · rename_i s hs
    simp only [Bool.and_eq_true, Bool.not_eq_true', List.all_eq_true, List.mem_range, Bool.or_eq_true, beq_iff_eq, bne_iff_ne, List.contains_eq_mem, decide_eq_true_eq, decide_eq_false_iff_not] at h
    refine ⟨s, hs, h.1, fun k hk => ?_⟩
    rcases Nat.lt_or_ge k ops.size with hlt | hge
    · rcases h.2 k hlt with h' | ⟨h1, h2⟩
      · exact absurd h' hk
      · exact ⟨h1, fun hl => h2.resolve_left (by simpa using hl)⟩
    · have : ops[k]? = none := Array.getElem?_eq_none hge
      exact ⟨by simp [dstOf, this], by simp [looksOf, this]⟩
  · cases h

theorem effOk_spec {ops : Array Oper} {j : Nat} (h : effOk ops j = true) : ∀ s, dstOf ops j = some s → ∀ k, k ≠ j → dstOf ops k ≠ some s ∧ (s ∈ looksOf ops k → j ∈ depsOf ops k ∨ k ∈ depsOf ops j) := by
  intro s hs k hk
  unfold effOk at h
  rw [hs] at h
  simp only [List.all_eq_true, List.mem_range, Bool.or_eq_true, Bool.and_eq_true, beq_iff_eq, bne_iff_ne, Bool.not_eq_true', List.contains_eq_mem, decide_eq_true_eq, decide_eq_false_iff_not] at h
  rcases Nat.lt_or_ge k ops.size with hlt | hge
  · rcases h k hlt with h' | ⟨h1, h2⟩
    · exact absurd h' hk
    · refine ⟨h1, fun hl => ?_⟩
      rcases h2 with (h2 | h2) | h2
      · exact absurd hl h2
      · exact .inl h2
      · exact .inr h2
  · have : ops[k]? = none := Array.getElem?_eq_none hge
    exact ⟨by simp [dstOf, this], by simp [looksOf, this]⟩

theorem Inv.sep {ops : Array Oper} {Lp L : Array Bool} {dn pd : List Nat} (h : Inv ops Lp L dn pd) : Sep ops pd := by
  have gen : ∀ l1 l2, pd = l1 ++ l2 → Sep ops l2 := by
    intro l1 l2
    induction l2 generalizing l1 with
    | nil => intro _; trivial
    | cons i r ih =>
      intro he
      have hi : i ∈ pd := by rw [he]; simp
      obtain ⟨s, hs, hself, hoth⟩ := pureOk_spec (h.ok i (h.mem i hi))
      have hnd := h.nd
      rw [he] at hnd
      refine ⟨fun d hd => ?_, fun k hk => ⟨fun d hd hl => ?_, fun d hd hd' => ?_⟩, ih (l1 ++ [i]) (by rw [he]; simp)⟩
      · rw [hs] at hd; cases hd; exact hself
      · have hkp : k ∈ pd := by rw [he]; simp [hk]
        obtain ⟨s', hs', _, hoth'⟩ := pureOk_spec (h.ok k (h.mem k hkp))
        rw [hs'] at hd; cases hd
        have hne : i ≠ k := fun e => by
          subst e
          have := (List.nodup_append.1 hnd).2.1
          rw [List.nodup_cons] at this
          exact this.1 hk
        rcases h.ord l1 i r he k ((hoth' i hne).2 hl) with h1 | h1
        · exact h.un k hkp h1
        · have := (List.nodup_append.1 hnd).2.2 k h1 k (by simp [hk])
          exact this rfl
      · have hkp : k ∈ pd := by rw [he]; simp [hk]
        rw [hs] at hd; cases hd
        have hne : k ≠ i := fun e => by
          subst e
          have := (List.nodup_append.1 hnd).2.1
          rw [List.nodup_cons] at this
          exact this.1 hk
        exact (hoth k hne).1 hd'
  exact gen [] pd rfl

theorem ancB_closed {ops : Array Oper} {L : Array Bool} (cl : ∀ i, lst L i → ∀ d ∈ depsOf ops i, lst L d) : ∀ (m i j : Nat), ancB ops m i j = true → (∀ d ∈ depsOf ops j, lst L d) → lst L i
  | 0, _, _, h, _ => by cases h
  | m + 1, i, j, h, hd => by
    simp only [ancB, Bool.or_eq_true, List.contains_eq_mem, decide_eq_true_eq, List.any_eq_true] at h
    rcases h with h | ⟨d, h1, h2⟩
    · exact hd i h
    · exact ancB_closed cl m i d h2 (cl d (hd d h1))

section
variable {P : Program} {c : Ctx} {n : Nat} {ops : Array Oper} {fz : List Nat}

/-- An operation that sees nothing of what is pending does the same with it filled in. -/
theorem wp_fill {o : Oper} {Q : Exit → Act → World → Prop} {N N' : Act → World → Prop} (hsel : ∀ cs b, o.op ≠ .select cs b) {a : Act} {w : World} {pend : List (Nat × Value)} (hl : ∀ p ∈ pend, ∀ d, dstOf ops p.1 = some d → d ∉ o.looksAt ops)
    (hd : ∀ p ∈ pend, apartD o.dst (dstOf ops p.1)) (hQ : ∀ ch a w, ¬ Q (.panic ch) a w) (hdef : ∀ a w, N a w → a.defers = []) (hN : ∀ v w', N (fill ops (a.put o.dst v) pend) w' → N' (a.put o.dst v) w')
    (h : if Region.wanted o (yielded ops (fill ops a pend).tmps) then o.wp P (fill ops a pend) w N Q else N ((fill ops a pend).put o.dst undef) w) :
    if Region.wanted o (yielded ops a.tmps) then o.wp P a w N' Q else N' (a.put o.dst undef) w := by
  obtain ⟨e1, e2⟩ := fill_exec hsel pend a hl
  have hput : ∀ v, (fill ops a pend).put o.dst v = fill ops (a.put o.dst v) pend := fun v => (fill_put v pend a hd).symm
  rw [e2] at h
  split
  · rename_i hw
    rw [if_pos hw] at h
    unfold Oper.wp at *
    rw [e1] at h
    generalize (execOp a.eval o).run P w = r at *
    cases r with
    | ok nx w' =>
      cases nx <;> simp only [Oper.upon] at h ⊢
      case value u => exact hN u w' (by rw [← hput]; exact h)
      case skip => exact hN _ w' (by rw [← hput]; exact h)
      case defer d =>
        have := hdef _ _ h
        rw [put_defers] at this
        cases this
      case enter f args =>
        refine Calls.mono h fun e w'' he => ?_
        cases e with
        | returned u => exact hN u w'' (by rw [← hput]; exact he)
        | panicked ch => exact absurd he (hQ _ _ _)
        | outgrown => exact he
      case row row args => exact Rows.mono h fun u w'' he => hN u w'' (by rw [← hput]; exact he)
    | halt x w' =>
      cases x <;> simp only [Oper.upon] at h ⊢
      case panic u => exact absurd h (hQ _ _ _)
  · rename_i hw
    rw [if_neg hw] at h
    exact hN _ _ (by rw [← hput]; exact h)

theorem fill_size (ops : Array Oper) : ∀ (l : List (Nat × Value)) (a : Act), (fill ops a l).tmps.size = a.tmps.size
  | [], _ => rfl
  | (i, u) :: l, a => by simp only [fill]; rw [fill_size ops l, put_size]

/-- A pending operation comes up. -/
theorem take_pending {Lp L : Array Bool} {dn : List Nat} {l1 l2 : List (Nat × Value)} {k : Nat} {u : Value} (hi : Inv ops Lp L dn ((l1 ++ (k, u) :: l2).map Prod.fst)) (hk : k ∈ Region.ready .any ops L) :
    Inv ops Lp (L.setIfInBounds k true) dn ((l1 ++ l2).map Prod.fst) := by
  obtain ⟨hlt, hu, hdeps⟩ := (ready_iff hi.sz).1 hk
  have hset : ∀ i, lst (L.setIfInBounds k true) i ↔ i = k ∨ lst L i := fun i => lst_set (by rw [hi.sz]; exact hlt)
  have hmem : ∀ i, i ∈ (l1 ++ (k, u) :: l2).map Prod.fst ↔ i = k ∨ i ∈ (l1 ++ l2).map Prod.fst := fun i => by
    simp only [List.map_append, List.map_cons, List.mem_append, List.mem_cons]
    constructor
    · rintro (h | h | h)
      · exact .inr (.inl h)
      · exact .inl h
      · exact .inr (.inr h)
    · rintro (h | h | h)
      · exact .inr (.inl h)
      · exact .inl h
      · exact .inr (.inr h)
  have hnd := hi.nd
  simp only [List.map_append, List.map_cons] at hnd
  have hnd2 : ((l1 ++ l2).map Prod.fst).Nodup ∧ k ∉ (l1 ++ l2).map Prod.fst := by
    rw [List.map_append]
    have hp : (l1.map Prod.fst ++ k :: l2.map Prod.fst).Perm (k :: (l1.map Prod.fst ++ l2.map Prod.fst)) := List.perm_middle
    have := hp.nodup_iff.1 hnd
    rw [List.nodup_cons] at this
    exact ⟨this.2, this.1⟩
  refine ⟨by simp [hi.sz], hi.szp, fun i => ?_, fun i h => ?_, hnd2.1, fun i h => hi.mem i ((hmem i).2 (.inr h)), hi.ok, fun i h => hi.lt i ((hmem i).2 (.inr h)), fun i h d hd => ?_, fun m1 i m2 he d hd => ?_⟩
  · rw [hi.iff, hset, hmem]
    constructor
    · rintro (h | h | h)
      · exact .inl (.inr h)
      · exact .inl (.inl h)
      · exact .inr h
    · rintro ((h | h) | h)
      · exact .inr (.inl h)
      · exact .inl h
      · exact .inr (.inr h)
  · rw [hset]
    rintro (rfl | h')
    · exact hnd2.2 h
    · exact hi.un i ((hmem i).2 (.inr h)) h'
  · rw [hset] at h ⊢
    rcases h with rfl | h
    · exact .inr (hdeps d hd)
    · exact .inr (hi.cl i h d hd)
  · rw [hset]
    rw [List.map_append] at he
    rcases List.append_eq_append_iff.1 he with ⟨t, h1, h2⟩ | ⟨t, h1, h2⟩
    · -- m1 = map l1 ++ t
      have := hi.ord (l1.map Prod.fst ++ k :: t) i m2 (by simp [h2]) d hd
      rcases this with h | h
      · exact .inl (.inr h)
      · rw [h1]
        rcases List.mem_append.1 h with h | h
        · exact .inr (by simp [h])
        · rcases List.mem_cons.1 h with rfl | h
          · exact .inl (.inl rfl)
          · exact .inr (by simp [h])
    · cases t with
      | nil =>
        simp only [List.append_nil, List.nil_append] at h1 h2
        have := hi.ord (l1.map Prod.fst ++ [k]) i m2 (by simp [← h2]) d hd
        rcases this with h | h
        · exact .inl (.inr h)
        · rcases List.mem_append.1 h with h | h
          · exact .inr (by rw [← h1]; exact h)
          · simp at h; exact .inl (.inl h)
      | cons y t =>
        simp only [List.cons_append, List.cons.injEq] at h2
        obtain ⟨rfl, h2⟩ := h2
        have := hi.ord m1 i (t ++ k :: l2.map Prod.fst) (by simp [h1]) d hd
        rcases this with h | h
        · exact .inl (.inr h)
        · exact .inr h

end
end Go.Fw
