/- Sets of states that are met, as the specification finds them. -/
import Derived.Test.YtpecepipllbghaaDoorMk
import Derived.Test.YtpecepipllbghaaDoorMh
set_option linter.unusedSimpArgs false
set_option linter.unusedVariables false
namespace Go.Fw
open Go Go.Proofs
set_option linter.unusedSectionVars false

theorem c_l9Same (xs ys : List Bool) (hl : xs.length = ys.length) (h1 : xs.length ≤ 1000) : DCalls Tryd.prog 100 [.d (bsD xs), .d (bsD ys)] fun y => y = .bool (decide (xs = ys)) := by
  refine dcalls_intro Ty.mixed Tryd.func100 rfl rfl rfl [] (by kernel_rfl) (by simp) ?_
  simp
  refine LoopVC.at { i : Nat // i ≤ xs.length ∧ ∀ j (h : j < xs.length), j < i → ∃ h' : j < ys.length, xs[j] = ys[j] } (fun i => [(0, .d (bsD xs)), (1, .d (bsD ys)), (5, iA i.1)]) (fun _ => []) [] (fun i => xs.length - i.1) ⟨0, by simp⟩ (by simp) (by simp) ?_
  rintro ⟨i, hi, hp⟩
  rcases Nat.lt_or_ge i xs.length with h | h
  · have h' : i < ys.length := by omega
    simp [h]
    refine .one (sch [.pur 0, .pur 1, .pur 2, .pur 3, .pur 4, .pur 5, .pur 6, .pur 7, .pur 8]) (by kernel_rfl) ?_
    simp [h, h']
    refine ⟨fun hne e => hne (by subst e; rfl), fun he => ⟨i + 1, .mk (by simp; exact wrap64 (by omega) (by omega)) (by simp), ⟨h, upto_succ hp h ⟨h', he⟩⟩, by omega⟩⟩
  · simp [Nat.not_lt.2 h]
    refine List.ext_getElem (by omega) fun j hj hj' => ?_
    obtain ⟨_, he⟩ := hp j hj (by omega)
    exact he

/-- A state's number, whatever the way of comparing that Lean finds. -/
def ixOf {S : Type} [DecidableEq S] (L : List S) (t : S) : Nat := L.idxOf t
theorem ixOf_is {S : Type} [DecidableEq S] (L : List S) (t : S) : L.idxOf t = ixOf L t := rfl

theorem ixOf_eq {S : Type} [DecidableEq S] {L : List S} {t : S} {i : Nat} (h : i < L.length) (he : L[i] = t) (hp : ∀ j (h : j < L.length), j < i → L[j] ≠ t) : ixOf L t = i := by
  have hm : t ∈ L := he ▸ List.getElem_mem h
  have h3 : ixOf L t ≤ i := by
    rcases Nat.lt_or_ge i (ixOf L t) with h4 | h4
    · have := List.not_of_lt_findIdx (p := (· == t)) (xs := L) h4
      simp [he] at this
    · exact h4
  have h5 : ixOf L t < L.length := List.idxOf_lt_length_iff.2 hm
  rcases Nat.lt_or_ge (ixOf L t) i with h6 | h6
  · exact absurd (List.getElem_idxOf h5) (hp _ h5 h6)
  · omega
theorem ixOf_snoc {S : Type} [DecidableEq S] {L : List S} {t : S} (h : t ∉ L) : ixOf (L ++ [t]) t = L.length := by
  unfold ixOf; rw [List.idxOf_append, if_neg h]; simp

theorem c_l9Find (L : List (List Bool)) (t : List Bool) (hl : ∀ x ∈ L, x.length = t.length) (h1 : t.length ≤ 1000) (h2 : L.length ≤ 9223372036854775807) : DCalls Tryd.prog 99 [.d (.list (L.map bsD)), .d (bsD t)] fun y => y = iD (if t ∈ L then (ixOf L t : Int) else -1) := by
  refine dcalls_intro Ty.mixed Tryd.func99 rfl rfl rfl [] (by kernel_rfl) (by simp) ?_
  simp
  refine LoopVC.at { i : Nat // i ≤ L.length ∧ ∀ j (h : j < L.length), j < i → L[j] ≠ t } (fun i => [(0, .d (.list (L.map bsD))), (1, .d (bsD t)), (5, iA i.1)]) (fun _ => []) [] (fun i => L.length - i.1) ⟨0, by simp⟩ (by simp) (by simp) ?_
  rintro ⟨i, hi, hp⟩
  rcases Nat.lt_or_ge i L.length with h | h
  · have hx := hl _ (List.getElem_mem h)
    simp [h]
    refine .dval (c_l9Same L[i] t hx (by omega)) rfl (by simp) rfl ?_
    simp
    refine ⟨fun he => ?_, fun hne => ⟨i + 1, .mk (by simp; exact wrap64 (by omega) (by omega)) (by simp), ⟨h, upto_succ hp h hne⟩, by omega⟩⟩
    have hm : t ∈ L := he ▸ List.getElem_mem h
    rw [if_pos hm]
    rw [ixOf_eq h he fun j hj hji => hp j hj hji]
  · simp [Nat.not_lt.2 h]
    have : t ∉ L := fun hm => by
      obtain ⟨j, hj, e⟩ := List.mem_iff_getElem.1 hm
      exact hp j hj (by omega) e
    exact this

section
variable {S : Type} [DecidableEq S]
theorem meets_len (ss : List S) : ∀ L : List S, (meets L ss).length ≤ L.length + ss.length := by
  induction ss with
  | nil => intro L; exact Nat.le_refl _
  | cons s ss ih =>
    intro L
    have h1 : (meet L s).length ≤ L.length + 1 := by unfold meet; split <;> simp
    have := ih (meet L s)
    show (meets (meet L s) ss).length ≤ _
    simp; omega
/-- What has been written of a row that grows. -/
def rowG (nx : S → Int → S) (L : List S) (s : S) (c : Nat) : List Int := ((suc nx s).take c).map fun t => ((meets L ((suc nx s).take c)).idxOf t : Int)
theorem rowG_len {nx : S → Int → S} {L : List S} {s : S} {c : Nat} (hc : c ≤ 3) : (rowG nx L s c).length = c := by simp [rowG, suc]; omega
theorem rowG_succ {nx : S → Int → S} {L : List S} {s : S} {c : Nat} (hc : c < 3) : rowG nx L s (c + 1) = rowG nx L s c ++ [((meets L ((suc nx s).take (c + 1))).idxOf (nx s c) : Int)] := by
  have hp : meets L ((suc nx s).take c) <+: meets L ((suc nx s).take (c + 1)) := by rw [suc_take hc, meets_snoc]; exact meet_prefix _ _
  unfold rowG
  rw [suc_take hc, List.map_append]
  congr 1
  refine List.map_congr_left fun t ht => ?_
  rw [← suc_take hc, idxOf_prefix hp (mem_meets.2 (.inr ht))]
theorem rowG_done {nx : S → Int → S} {L : List S} {s : S} : rowG nx L s 3 = rowL nx (meets L (suc nx s)) s := by simp [rowG, rowL, suc]
end

abbrev nxE (a : Na) : List Bool → Int → List Bool := fun xs c => nextE a.n.toNat a.ms xs c

set_option maxRecDepth 100000 in
theorem c_l9SubsetsG (a : Na) (most : Nat) (hm2 : most ≤ 1000) (hn : 0 ≤ a.n ∧ a.n ≤ 1000) (hm : msOk a.n a.ms) (h1 : a.ms.length ≤ 9223372036854775807) (hf : ∀ x ∈ a.fs, 0 ≤ x ∧ x < a.n) (h2 : a.fs.length ≤ 9223372036854775807) :
    TCalls Tryd.prog 93 [.d a.d, iA most] fun r => ∃ k, ((metK (nxE a) (firstE a) k).length ≤ k ∨ most < (metK (nxE a) (firstE a) k).length) ∧ k ≤ (metK (nxE a) (firstE a) k).length ∧ (metK (nxE a) (firstE a) k).length ≤ most + 3 ∧ r = [.list ((metK (nxE a) (firstE a) k).map bsD), .list (((metK (nxE a) (firstE a) k).take k).map fun s => intsD (rowL (nxE a) (metK (nxE a) (firstE a) k) s))] := by
  refine tcalls_intro Ty.mixed Tryd.func93 rfl rfl rfl [2] (by kernel_rfl) (by simp) ?_
  have hfl : (firstE a).length = a.n.toNat := by simp [firstE, closeE_len, flagsE_len]
  simp [Na.d]
  refine .one (sch [.pur 0, .pur 1, .pur 2, .pur 3, .pur 4, .eff 5 [0], .eff 6 [], .eff 7 [], .pur 8]) (by kernel_rfl) ?_
  simp
  refine .ddat (c_l8FlagsG a.fs a.n hn hf h2) rfl (by simp) ?_
  rintro _ rfl
  simp
  refine .ddat (c_l8CloseG a hn.2 hm h1 _ (flagsE_len _ _)) rfl (by simp [Na.d]) ?_
  rintro _ rfl
  simp
  generalize hs0 : firstE a = s0 at *
  have hs0' : closeE a.ms (flagsE a.n.toNat a.fs) = s0 := hs0
  refine LoopVC.at { k : Nat // k ≤ (metK (nxE a) s0 k).length ∧ (metK (nxE a) s0 k).length ≤ most + 3 } (fun k => [(1, iA most), (2, .dp [iA a.n, .d (.list (a.ms.map Mv.d)), .d (intsD a.fs), .d (intsD a.es)]), (6, .sl 1 2000 0 (metK (nxE a) s0 k.1).length), (7, .sl 1 2100 0 k.1), (8, iA k.1)])
    (fun k => [(2000, .ar 1 ((metK (nxE a) s0 k.1).map bsD)), (2100, .ar 1 (((metK (nxE a) s0 k.1).take k.1).map fun s => intsD (rowL (nxE a) (metK (nxE a) s0 k.1) s)))]) [2000, 2100] (fun k => most + 1 - k.1) ⟨0, by simp [metK]⟩ (by simp [metK]) (by simp [metK, hs0']) ?_
  rintro ⟨k, hk1, hk2⟩
  have hstep : ∀ s, (metK (nxE a) s0 k)[k]? = some s → metK (nxE a) s0 (k + 1) = meets (metK (nxE a) s0 k) (suc (nxE a) s) := fun s hs => by simp only [metK, hs]
  have hmem := metK_ind (nx := nxE a) (s0 := s0) (p := fun x => x.length = a.n.toNat) hfl (fun s hs => ⟨nextE_len _ _ _ _, nextE_len _ _ _ _, nextE_len _ _ _ _⟩) k
  have hpre := metK_succ_prefix (nx := nxE a) (s0 := s0) k
  by_cases hc : k < (metK (nxE a) s0 k).length ∧ (metK (nxE a) s0 k).length ≤ most
  · obtain ⟨hkl, hlm⟩ := hc
    obtain ⟨s, hsk⟩ : ∃ s, (metK (nxE a) s0 k)[k]? = some s := ⟨_, List.getElem?_eq_getElem hkl⟩
    have hms := hstep s hsk
    have hps := hmem s (List.mem_of_getElem? hsk)
    simp [show (k : Int) < (metK (nxE a) s0 k).length by omega, show ((metK (nxE a) s0 k).length : Int) ≤ most by omega]
    refine LoopVC.at { c : Nat // c ≤ 3 } (fun c => [(1, iA most), (2, .dp [iA a.n, .d (.list (a.ms.map Mv.d)), .d (intsD a.fs), .d (intsD a.es)]), (6, .sl 1 2000 0 (meets (metK (nxE a) s0 k) ((suc (nxE a) s).take c.1)).length), (7, .sl 1 2100 0 k), (8, iA k), (9, .sl 1 3400 0 c.1), (10, iA c.1)])
      (fun c => [(2000, .ar 1 ((meets (metK (nxE a) s0 k) ((suc (nxE a) s).take c.1)).map bsD)), (2100, .ar 1 (((metK (nxE a) s0 k).take k).map fun s => intsD (rowL (nxE a) (metK (nxE a) s0 k) s))), (3400, .ar 1 ((rowG (nxE a) (metK (nxE a) s0 k) s c.1).map iD))]) [2000, 2100, 3400] (fun c => 3 - c.1) ⟨0, by simp⟩ (by simp [meets]) (by simp [meets, rowG]) ?_
    rintro ⟨c, hc⟩
    rcases Nat.lt_or_ge c 3 with hc3 | hc3
    · have hpc : metK (nxE a) s0 k <+: meets (metK (nxE a) s0 k) ((suc (nxE a) s).take c) := meets_prefix _ _
      have hskc : (meets (metK (nxE a) s0 k) ((suc (nxE a) s).take c))[k]? = some s := by
        obtain ⟨r, hr⟩ := hpc
        rw [← hr, List.getElem?_append_left hkl]; exact hsk
      have hsn : meets (metK (nxE a) s0 k) ((suc (nxE a) s).take (c + 1)) = meet (meets (metK (nxE a) s0 k) ((suc (nxE a) s).take c)) (nxE a s c) := by rw [suc_take hc3, meets_snoc]
      have hrg := rowG_len (nx := nxE a) (L := metK (nxE a) s0 k) (s := s) hc
      have hrs := rowG_succ (nx := nxE a) (L := metK (nxE a) s0 k) (s := s) hc3
      have hml := meets_len ((suc (nxE a) s).take c) (metK (nxE a) s0 k)
      have htl : ((suc (nxE a) s).take c).length = c := by simp [suc]; omega
      rw [hsn, ixOf_is] at hrs
      have hall : ∀ x ∈ meets (metK (nxE a) s0 k) ((suc (nxE a) s).take c), x.length = (nxE a s c).length := fun x hx => by
        have e : (nxE a s c).length = a.n.toNat := nextE_len _ _ _ _
        rw [e]
        rcases mem_meets.1 hx with h | h
        · exact hmem x h
        · have := List.mem_of_mem_take h
          simp [suc] at this
          rcases this with rfl | rfl | rfl <;> exact nextE_len _ _ _ _
      obtain ⟨hkM, hskM⟩ := List.getElem?_eq_some_iff.1 hskc
      simp [show (c : Int) < 3 by omega]
      refine .one (sch [.pur 0, .pur 1, .pur 2, .pur 3, .pur 4, .pur 5, .eff 6 [], .pur 7]) (by kernel_rfl) ?_
      simp [hkM, hskM]
      refine .ddat (c_l8StepG a hn hm h1 s hps c) rfl (by simp [Na.d]) ?_
      rintro _ rfl
      have hx : nextE a.n.toNat a.ms s c = nxE a s c := rfl
      have hxl : (nxE a s c).length = a.n.toNat := nextE_len _ _ _ _
      rw [hx]
      generalize nxE a s c = x at *
      simp [hkM, hskM]
      refine .dvalE (c_l9Find _ x hall (by omega) (by omega)) rfl (by simp [takeM]) (by simp) rfl ?_
      by_cases hin : x ∈ meets (metK (nxE a) s0 k) ((suc (nxE a) s).take c)
      · have hmt : meet (meets (metK (nxE a) s0 k) ((suc (nxE a) s).take c)) x = meets (metK (nxE a) s0 k) ((suc (nxE a) s).take c) := by unfold meet; rw [if_pos hin]
        rw [hmt] at hrs hsn
        rw [if_pos hin]
        simp [hrg, show ¬ ((ixOf (meets (metK (nxE a) s0 k) ((suc (nxE a) s).take c)) x : Int) < 0) by omega]
        refine ⟨⟨by omega, by omega⟩, c + 1, .mk ?_ ?_, hc3, by omega⟩
        · simp [hsn]; exact wrap64 (by omega) (by omega)
        · simp [hsn, hrs]
      · have hmt : meet (meets (metK (nxE a) s0 k) ((suc (nxE a) s).take c)) x = meets (metK (nxE a) s0 k) ((suc (nxE a) s).take c) ++ [x] := by unfold meet; rw [if_neg hin]
        rw [hmt] at hrs hsn
        rw [if_neg hin]
        rw [ixOf_snoc hin] at hrs
        simp [hrg]
        refine ⟨⟨by omega, by omega⟩, ⟨by omega, by omega⟩, c + 1, .mk ?_ ?_, hc3, by omega⟩
        · simp [hsn]; exact wrap64 (by omega) (by omega)
        · simp [hsn, hrs]
    · have : c = 3 := by omega
      subst this
      have ht3 : (suc (nxE a) s).take 3 = suc (nxE a) s := by simp [suc]
      have hrg := rowG_len (nx := nxE a) (L := metK (nxE a) s0 k) (s := s) (c := 3) (by omega)
      obtain ⟨hn1, hn2⟩ := metK_next hsk
      have hrd : rowG (nxE a) (metK (nxE a) s0 k) s 3 = rowL (nxE a) (metK (nxE a) s0 (k + 1)) s := by rw [rowG_done, hms]
      have hml := meets_len (suc (nxE a) s) (metK (nxE a) s0 k)
      have hsl : (suc (nxE a) s).length = 3 := by simp [suc]
      simp [ht3]
      refine ⟨by omega, ⟨by omega, by omega, by omega⟩, k + 1, .mk ?_ ?_, ⟨?_, ?_⟩, ?_⟩
      · simp [hms]; exact wrap64 (by omega) (by omega)
      · have hn2D : ((metK (nxE a) s0 k).take k).map (fun s => intsD (rowL (nxE a) (metK (nxE a) s0 k) s)) ++ [intsD (rowL (nxE a) (metK (nxE a) s0 (k + 1)) s)] = ((metK (nxE a) s0 (k + 1)).take (k + 1)).map fun s => intsD (rowL (nxE a) (metK (nxE a) s0 (k + 1)) s) := by
          have := congrArg (List.map intsD) hn2
          simpa [Function.comp_def] using this
        have htr : List.take 3 ((rowG (nxE a) (metK (nxE a) s0 k) s 3).map iD) = (rowL (nxE a) (metK (nxE a) s0 (k + 1)) s).map iD := by
          rw [List.take_of_length_le (by rw [List.length_map, hrg]; exact Nat.le_refl _), hrd]
        simp only [List.map_take] at hn2D
        rw [hms] at hn2D htr
        simp [htr, hn2D, hms]
      · have := (meets_prefix (suc (nxE a) s) (metK (nxE a) s0 k)).length_le
        have h3 := congrArg List.length hn1
        rw [List.length_take, List.length_append, List.length_take] at h3
        simp at h3
        omega
      · rw [hms]; omega
      · omega
  · have hend : (metK (nxE a) s0 k).length ≤ k ∨ most < (metK (nxE a) s0 k).length := by omega
    have htk : ∀ {β : Type} (f : List Bool → β), List.take k (List.take k (List.map f (metK (nxE a) s0 k))) = List.take k (List.map f (metK (nxE a) s0 k)) := fun f => by rw [List.take_take, Nat.min_self]
    rcases Nat.lt_or_ge k (metK (nxE a) s0 k).length with h5 | h5
    · simp [show (k : Int) < (metK (nxE a) s0 k).length by omega, show ¬ ((metK (nxE a) s0 k).length : Int) ≤ most by omega]
      exact ⟨by omega, k, hend, hk1, hk2, takeM _ _, htk _⟩
    · simp [show ¬ (k : Int) < (metK (nxE a) s0 k).length by omega]
      exact ⟨by omega, k, hend, hk1, hk2, takeM _ _, htk _⟩
theorem c_l9Subsets (a : Na) (most : Nat) (hm2 : most ≤ 1000) (hn : 0 ≤ a.n ∧ a.n ≤ 40) (hm : msOk a.n a.ms) (h1 : a.ms.length ≤ 9223372036854775807) (hf : ∀ x ∈ a.fs, 0 ≤ x ∧ x < a.n) (h2 : a.fs.length ≤ 9223372036854775807) :
    TCalls Tryd.prog 93 [.d a.d, iA most] fun r => ∃ k, ((metK (nxE a) (firstE a) k).length ≤ k ∨ most < (metK (nxE a) (firstE a) k).length) ∧ k ≤ (metK (nxE a) (firstE a) k).length ∧ (metK (nxE a) (firstE a) k).length ≤ most + 3 ∧ r = [.list ((metK (nxE a) (firstE a) k).map bsD), .list (((metK (nxE a) (firstE a) k).take k).map fun s => intsD (rowL (nxE a) (metK (nxE a) (firstE a) k) s))] := c_l9SubsetsG a most hm2 (by omega) hm h1 hf h2
end Go.Fw
