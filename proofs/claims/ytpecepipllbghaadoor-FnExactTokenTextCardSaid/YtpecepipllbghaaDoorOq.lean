/- Matches: the longest part at a place; the first match. -/
import Derived.Test.YtpecepipllbghaaDoorLv
set_option linter.unusedSimpArgs false
set_option linter.unusedVariables false
namespace Go.Fw
open Go Go.Proofs
set_option linter.unusedSectionVars false
set_option linter.unnecessarySimpa false

/-- The end of the longest accepted part that begins at 'f', of those with at most so many letters; -1 if there is none. -/
def longN (a : Df) (s : List UInt8) (f : Nat) : Nat → Int
  | 0 => if a.acc [] then f else -1
  | i + 1 => if a.acc ((s.drop f).take (i + 1)) then ((f + (i + 1) : Nat) : Int) else longN a s f i
def longest (a : Df) (s : List UInt8) (f : Nat) : Int := longN a s f (s.length - f)
theorem longN_bd (a : Df) (s : List UInt8) (f : Nat) : ∀ n, -1 ≤ longN a s f n ∧ longN a s f n ≤ ((f + n : Nat) : Int)
  | 0 => by unfold longN; split <;> omega
  | n + 1 => by
    have := longN_bd a s f n
    unfold longN; split <;> omega
theorem long_ge (a : Df) (s : List UInt8) (f : Nat) : ∀ n i, i ≤ n → a.acc ((s.drop f).take i) = true → ((f + i : Nat) : Int) ≤ longN a s f n
  | 0, i, hi, h => by
    have : i = 0 := by omega
    subst this
    unfold longN
    rw [List.take_zero] at h
    rw [if_pos h]; omega
  | n + 1, i, hi, h => by
    unfold longN
    split
    · omega
    · rename_i hno
      rcases Nat.lt_or_ge i (n + 1) with h1 | h1
      · exact long_ge a s f n i (by omega) h
      · have : i = n + 1 := by omega
        subst this; exact absurd h hno
theorem long_acc (a : Df) (s : List UInt8) (f : Nat) : ∀ n, 0 ≤ longN a s f n → ∃ i, i ≤ n ∧ longN a s f n = ((f + i : Nat) : Int) ∧ a.acc ((s.drop f).take i) = true
  | 0, h => by
    unfold longN at h ⊢
    by_cases hA : a.acc [] = true
    · rw [if_pos hA]; exact ⟨0, by omega, by simp, by rw [List.take_zero]; exact hA⟩
    · rw [if_neg hA] at h; omega
  | n + 1, h => by
    unfold longN at h ⊢
    by_cases hA : a.acc ((s.drop f).take (n + 1)) = true
    · rw [if_pos hA]; exact ⟨n + 1, by omega, rfl, hA⟩
    · rw [if_neg hA] at h ⊢
      obtain ⟨i, h1, h2, h3⟩ := long_acc a s f n h
      exact ⟨i, by omega, h2, h3⟩
/-- Before the i-th end has been looked at. -/
def longB (a : Df) (s : List UInt8) (f i : Nat) : Int := match i with | 0 => -1 | j + 1 => longN a s f j
theorem longB_step (a : Df) (s : List UInt8) (f i : Nat) : longN a s f i = if a.acc ((s.drop f).take i) then ((f + i : Nat) : Int) else longB a s f i := by
  cases i with
  | zero => rw [List.take_zero]; rfl
  | succ i => rfl
theorem drop_snoc {s : List UInt8} {f i : Nat} (h : f + i < s.length) : (s.drop f).take (i + 1) = (s.drop f).take i ++ [s[f + i]] := by
  rw [take_snoc (by simp; omega)]; simp
theorem run_drop (a : Df) {s : List UInt8} {f i : Nat} (h : f + i < s.length) : a.run 0 ((s.drop f).take (i + 1)) = a.go (a.run 0 ((s.drop f).take i)) (ltr s[f + i]) := by
  rw [drop_snoc h, run_app]; rfl
theorem all_part {s : List UInt8} (h : s.all isL = true) (f i : Nat) : ((s.drop f).take i).all isL = true := by
  rw [List.all_eq_true] at h ⊢
  exact fun x hx => h x (List.mem_of_mem_drop (List.mem_of_mem_take hx))

set_option maxRecDepth 100000 in
theorem c_longest (a : Df) (s : List UInt8) (f : Nat) (h : okDf a = true) (hs : s.all isL = true) (hl : s.length ≤ 1000) (hf : f ≤ s.length) : DCalls Tryd.prog 35 [.d a.d, sA s, iA f] fun y => y = iD (longest a s f) := by
  refine dcalls_intro Ty.mixed Tryd.func35 rfl rfl rfl [3] (by kernel_rfl) (by simp) ?_
  simp [Df.d]
  refine LoopVC.at { i : Nat // f + i ≤ s.length } (fun i => [(1, sA s), (3, .dp [.d (rowsD a.next), .d (bsD a.ends)]), (7, iA (longB a s f i.1)), (8, iA (a.run 0 ((s.drop f).take i.1))), (9, iA ((f : Int) + i.1))]) (fun _ => []) [] (fun i => s.length - f - i.1) ⟨0, by simpa using hf⟩ (by simp [Df.run, longB]) (by simp) ?_
  rintro ⟨i, hi⟩
  have hok := run_st h (st0 h) (all_part hs f i)
  have hst := longB_step a s f i
  have hr := fin_row h hok
  have hacc : a.acc ((s.drop f).take i) = a.fin (a.run 0 ((s.drop f).take i)) := rfl
  rw [hacc] at hst
  rcases Nat.lt_or_ge (f + i) s.length with h' | h'
  · have hsn := run_drop a h'
    have hnx : longB a s f (i + 1) = longN a s f i := rfl
    have hb : isL s[f + i] = true := by rw [List.all_eq_true] at hs; exact hs _ (List.getElem_mem h')
    have hlt := ltr_of hb
    have hlet := c_letter s (f + i) h'
    generalize a.run 0 ((s.drop f).take i) = q at *
    have hk : q.toNat < a.next.length := by have := hok.1; have := hok.2; omega
    obtain ⟨g1, g2⟩ := okDf_row h hk
    have a1 := getD_row (xs := a.next) (i := q.toNat) [] hk
    have a2 := getD_row (xs := a.next.getD q.toNat []) (i := (ltr s[f + i]).toNat) 0 (by omega)
    unfold Df.go at hsn
    have hq := hok.1
    have hq2 := hok.2
    generalize a.next.getD q.toNat [] = nx at *
    generalize nx.getD (ltr s[f + i]).toNat 0 = nv at *
    have l2 : (ltr s[f + i]).toNat < 3 := by omega
    have l3 : ltr s[f + i] < 3 := by omega
    have hne : ¬ ((f : Int) + i = s.length) := by omega
    push_cast at hlet
    have hw : IntKind.i64.wrap ((f : Int) + i + 1) = (f : Int) + ((i + 1 : Nat) : Int) := by rw [wrap64 (by omega) (by omega)]; omega
    have hfin : ∀ e : Int, e = longN a s f i → ∃ x : { i : Nat // f + i ≤ s.length }, iA e = iA (longB a s f x.1) ∧ iA nv = iA (a.run 0 ((s.drop f).take x.1)) ∧ x.1 = i + 1 := fun e he => ⟨⟨i + 1, by omega⟩, by rw [he, hnx], by rw [hsn], rfl⟩
    cases hfq : a.fin q with
    | true =>
      rw [hfq, if_pos rfl] at hst
      simp [hr, hne, hfq]
      refine .one (sch [.pur 0, .pur 1, .pur 2, .pur 3, .pur 4, .pur 5, .pur 6, .eff 7 [0, 1, 2, 3, 4], .pur 8, .pur 9, .eff 10 []]) (by kernel_rfl) ?_
      simp [hq, hq2, a1]
      refine .dval hlet rfl (by simp) rfl ?_
      simp [hq, hq2, a1, hlt.2, l3, g1, a2, l2]
      refine ⟨i + 1, .mk ?_ (by simp), h', by omega⟩
      simp [hnx, hst, hsn, hw]
    | false =>
      rw [hfq, if_neg (by simp)] at hst
      simp [hr, hne, hfq]
      refine .one (sch [.pur 0, .pur 1, .pur 2, .pur 3, .pur 4, .pur 5, .pur 6, .eff 7 [0, 1, 2, 3, 4], .pur 8, .pur 9, .eff 10 []]) (by kernel_rfl) ?_
      simp [hq, hq2, a1]
      refine .dval hlet rfl (by simp) rfl ?_
      simp [hq, hq2, a1, hlt.2, l3, g1, a2, l2]
      refine ⟨i + 1, .mk ?_ (by simp), h', by omega⟩
      simp [hnx, hst, hsn, hw]
  · have hie : i = s.length - f := by omega
    subst hie
    have he : (f : Int) + ((s.length - f : Nat) : Int) = s.length := by omega
    have he2 : ((f + (s.length - f) : Nat) : Int) = s.length := by omega
    unfold longest
    rw [he2] at hst
    simp [hr, he]
    refine ⟨fun hf1 => ?_, fun hf1 => ?_⟩
    · rw [hst, if_pos hf1]
    · rw [hst, if_neg (by simp [hf1])]

set_option maxRecDepth 100000 in
theorem c_l19Longest (a : Df) (s : List UInt8) (f : Nat) (h : okDf a = true) (hs : s.all isL = true) (hl : s.length ≤ 1000) (hf : f ≤ s.length) : DCalls Tryd.prog 52 [.d a.d, sA s, iA f] fun y => y = iD (longest a s f) := by
  refine dcalls_intro Ty.mixed Tryd.func52 rfl rfl rfl [3] (by kernel_rfl) (by simp) ?_
  have h0 := fin_row h (st0 h)
  have hL0 : longN a s f 0 = if a.fin 0 then (f : Int) else -1 := rfl
  have hk0 := (okDf_len h)
  have hf0 : a.fin 0 = a.ends.getD 0 false := rfl
  have b0 := getD_row (xs := a.ends) (i := 0) false (by omega)
  rw [← hf0] at b0
  simp [Df.d, b0]
  cases hfq : a.fin 0 <;> rw [hfq] at hL0
  all_goals
    simp
    simp at hL0
    refine ⟨by omega, ?_⟩
    refine LoopVC.at { i : Nat // f + i ≤ s.length } (fun i => [(1, sA s), (3, .dp [.d (rowsD a.next), .d (bsD a.ends)]), (7, iA (longN a s f i.1)), (8, iA (a.run 0 ((s.drop f).take i.1))), (9, iA ((f : Int) + i.1))]) (fun _ => []) [] (fun i => s.length - f - i.1) ⟨0, by simpa using hf⟩ (by simp [Df.run, hL0]) (by simp) ?_
    rintro ⟨i, hi⟩
    have hok := run_st h (st0 h) (all_part hs f i)
    rcases Nat.lt_or_ge (f + i) s.length with h' | h'
    · have hsn := run_drop a h'
      have hok2 := run_st h (st0 h) (all_part hs f (i + 1))
      have hr2 := fin_row h hok2
      have hacc : a.acc ((s.drop f).take (i + 1)) = a.fin (a.run 0 ((s.drop f).take (i + 1))) := rfl
      have hst : longN a s f (i + 1) = if a.acc ((s.drop f).take (i + 1)) then ((f + (i + 1) : Nat) : Int) else longN a s f i := rfl
      rw [hacc] at hst
      have hb : isL s[f + i] = true := by rw [List.all_eq_true] at hs; exact hs _ (List.getElem_mem h')
      have hlt := ltr_of hb
      have hsub : IntKind.i64.wrap (IntKind.u8.wrap ((s[f + i].toNat : Int) - 97)) = ltr s[f + i] := wrap_ltr _
      generalize a.run 0 ((s.drop f).take i) = q at *
      generalize hQ : a.run 0 ((s.drop f).take (i + 1)) = q2 at *
      have hk : q.toNat < a.next.length := by have := hok.1; have := hok.2; omega
      obtain ⟨g1, g2⟩ := okDf_row h hk
      have a1 := getD_row (xs := a.next) (i := q.toNat) [] hk
      have a2 := getD_row (xs := a.next.getD q.toNat []) (i := (ltr s[f + i]).toNat) 0 (by omega)
      unfold Df.go at hsn
      rw [← hsn] at a2
      have hq := hok.1
      have hq2 := hok.2
      have hq3 := hok2.1
      have hq4 := hok2.2
      generalize a.next.getD q.toNat [] = nx at *
      have l2 : (ltr s[f + i]).toNat < 3 := by omega
      have l3 : ltr s[f + i] < 3 := by omega
      have htn : ((f : Int) + i).toNat = f + i := by omega
      have hlti : (f : Int) + i < s.length := by omega
      have hw : IntKind.i64.wrap ((f : Int) + i + 1) = (f : Int) + ((i + 1 : Nat) : Int) := by rw [wrap64 (by omega) (by omega)]; omega
      have hge : 0 ≤ (f : Int) + i := by omega
      simp [hlti]
      refine .one (sch [.pur 0, .pur 1, .pur 2, .pur 3, .pur 4, .pur 5, .pur 6, .pur 7, .pur 8, .pur 9, .pur 10, .pur 11, .eff 12 []]) (by kernel_rfl) ?_
      simp [htn, hlti, hge, h', hsub, hq, hq2, a1, hlt.2, l3, g1, a2, l2, hr2, hq3]
      refine ⟨fun hfq2 => ⟨i + 1, .mk ?_ (by simp), h', by omega⟩, fun hfq2 => ⟨i + 1, .mk ?_ (by simp), h', by omega⟩⟩
      · rw [hfq2, if_pos rfl] at hst
        simp [hst, hQ, hw]
      · rw [hfq2, if_neg (by simp)] at hst
        simp [hst, hQ, hw]
    · have hie : i = s.length - f := by omega
      subst hie
      have he : (f : Int) + ((s.length - f : Nat) : Int) = s.length := by omega
      unfold longest
      simp [he]

/-- The first match. -/
def FindIs (a : Df) (s : List UInt8) (f : Nat) (F T : Int) (ok : Bool) : Prop :=
  (ok = true ∧ ∃ k : Nat, f ≤ k ∧ k ≤ s.length ∧ F = k ∧ T = longest a s k ∧ 0 ≤ longest a s k ∧ ∀ j, f ≤ j → j < k → longest a s j < 0) ∨
  (ok = false ∧ F = 0 ∧ T = 0 ∧ ∀ j, f ≤ j → j ≤ s.length → longest a s j < 0)
theorem FindIs.uniq {a : Df} {s : List UInt8} {f : Nat} {F T F' T' : Int} {ok ok' : Bool} (h : FindIs a s f F T ok) (h' : FindIs a s f F' T' ok') : F = F' ∧ T = T' ∧ ok = ok' := by
  rcases h with ⟨rfl, k, h1, h2, rfl, rfl, h3, h4⟩ | ⟨rfl, rfl, rfl, h4⟩ <;> rcases h' with ⟨rfl, k', h1', h2', rfl, rfl, h3', h4'⟩ | ⟨rfl, rfl, rfl, h4'⟩
  · have : k = k' := by
      rcases Nat.lt_trichotomy k k' with h5 | h5 | h5
      · have := h4' k h1 h5; omega
      · exact h5
      · have := h4 k' h1' h5; omega
    subst this; exact ⟨rfl, rfl, rfl⟩
  · have := h4' k h1 h2; omega
  · have := h4 k' h1' h2'; omega
  · exact ⟨rfl, rfl, rfl⟩
theorem longest_bd (a : Df) (s : List UInt8) {f : Nat} (hf : f ≤ s.length) : -1 ≤ longest a s f ∧ longest a s f ≤ s.length := by
  have := longN_bd a s f (s.length - f)
  unfold longest; omega

/-- What the first match is, of any arguments. -/
def FirstIs (a : Df) (s : List UInt8) (f F T : Int) (ok : Bool) : Prop :=
  (okDf a = true ∧ textOk s = true ∧ 0 ≤ f ∧ f ≤ s.length ∧ FindIs a s f.toNat F T ok) ∨ (¬ (okDf a = true ∧ textOk s = true ∧ 0 ≤ f ∧ f ≤ s.length) ∧ F = 0 ∧ T = 0 ∧ ok = false)
theorem FirstIs.uniq {a : Df} {s : List UInt8} {f F T F' T' : Int} {ok ok' : Bool} (h : FirstIs a s f F T ok) (h' : FirstIs a s f F' T' ok') : F = F' ∧ T = T' ∧ ok = ok' := by
  rcases h with ⟨h1, h2, h3, h4, h⟩ | ⟨h1, rfl, rfl, rfl⟩ <;> rcases h' with ⟨g1, g2, g3, g4, h'⟩ | ⟨g1, rfl, rfl, rfl⟩
  · exact h.uniq h'
  · exact absurd ⟨h1, h2, h3, h4⟩ g1
  · exact absurd ⟨g1, g2, g3, g4⟩ h1
  · exact ⟨rfl, rfl, rfl⟩
def FirstR (a : Df) (s : List UInt8) (f : Int) (r : List D) : Prop := ∃ (F T : Int) (ok : Bool), r = [.agg [iD F, iD T], .bool ok] ∧ FirstIs a s f F T ok

end Go.Fw
