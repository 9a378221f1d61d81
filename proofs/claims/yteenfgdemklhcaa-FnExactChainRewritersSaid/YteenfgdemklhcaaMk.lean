/- States that are met one behind the other, as the program finds them. -/
import Derived.Test.YteenfgdemklhcaaMa
import Derived.Test.YteenfgdemklhcaaFwb
set_option linter.unusedSimpArgs false
set_option linter.unusedVariables false
namespace Go.Fw
open Go Go.Proofs

set_option linter.unusedSectionVars false
/-- A pair of states; a set of states. -/
structure Pr where
  a : Int
  b : Int
deriving DecidableEq
structure St where
  a : Nat
  b : Nat
deriving DecidableEq
def pD (p : Pr) : D := .agg [iD p.a, iD p.b]
def uD (p : St) : D := .agg [.int .u64 p.a, .int .u64 p.b]
theorem key_pD (s t : Pr) : keyEq (pD s) (pD t) = decide (s = t) := by
  cases s; cases t
  rw [Bool.eq_iff_iff]; simp [keyEq, aggEq, pD]
theorem key_uD (s t : St) : keyEq (uD s) (uD t) = decide (s = t) := by
  cases s; cases t
  rw [Bool.eq_iff_iff]; simp [keyEq, aggEq, uD]; omega
section
variable {S : Type} [DecidableEq S]
/-- The map of the numbers. -/
def numE (f : S → D) (L : List S) : List (D × D) := L.zipIdx.map fun p => (f p.1, iD p.2)
theorem numE_snoc (f : S → D) (L : List S) (s : S) : numE f (L ++ [s]) = numE f L ++ [(f s, iD L.length)] := by
  simp [numE, List.zipIdx_append]
theorem numE_find {f : S → D} (hf : ∀ s t, keyEq (f s) (f t) = decide (s = t)) (t : S) : ∀ (L : List S) (n : Nat), ((L.zipIdx n).map fun p => (f p.1, iD p.2)).find? (fun e => keyEq (f t) e.1) = if t ∈ L then some (f t, iD ((L.idxOf t + n : Nat) : Int)) else none
  | [], n => by simp
  | s :: L, n => by
    rw [List.zipIdx_cons, List.map_cons, List.find?_cons]
    by_cases h : t = s
    · subst h
      simp [hf]
    · have h1 : (decide (t = s)) = false := by simp [h]
      have h2 : (s == t) = false := by simp [Ne.symm h]
      have h3 : keyEq (f t) (f s) = false := by rw [hf, h1]
      simp only [h3, numE_find hf t L (n + 1), List.mem_cons, h, false_or, List.idxOf_cons, h2, cond_false]
      rw [show L.idxOf t + (n + 1) = L.idxOf t + 1 + n by omega]
theorem mhas_num {f : S → D} (hf : ∀ s t, keyEq (f s) (f t) = decide (s = t)) (L : List S) (t : S) : mhas (numE f L) (f t) = decide (t ∈ L) := by
  have h := numE_find hf t L 0
  unfold mhas numE
  rw [Bool.eq_iff_iff, List.any_eq_true, ← List.find?_isSome, h]
  split <;> simp [*]
theorem mget_num {f : S → D} (hf : ∀ s t, keyEq (f s) (f t) = decide (s = t)) {L : List S} {t : S} (h : t ∈ L) : mget .i64 (numE f L) (f t) = iD (L.idxOf t) := by
  have h' := numE_find hf t L 0
  unfold mget numE
  rw [h', if_pos h]; simp
/-- A state's row. -/
def rowL (nx : S → Int → S) (L : List S) (s : S) : List Int := (suc nx s).map fun t => (L.idxOf t : Int)
theorem idxOf_prefix {L M : List S} (h : L <+: M) {t : S} (ht : t ∈ L) : M.idxOf t = L.idxOf t := by
  obtain ⟨r, rfl⟩ := h
  rw [List.idxOf_append, if_pos ht]
theorem meets_snoc {L ss : List S} {s : S} : meets L (ss ++ [s]) = meet (meets L ss) s := by simp [meets]
/-- What has been written of a row. -/
def rowC (nx : S → Int → S) (L : List S) (s : S) (c : Nat) : List Int := ((suc nx s).take c).map (fun t => ((meets L ((suc nx s).take c)).idxOf t : Int)) ++ List.replicate (3 - c) 0
theorem suc_take {nx : S → Int → S} {s : S} {c : Nat} (hc : c < 3) : (suc nx s).take (c + 1) = (suc nx s).take c ++ [nx s c] := by
  match c, hc with
  | 0, _ => rfl
  | 1, _ => rfl
  | 2, _ => rfl
theorem rowC_len {nx : S → Int → S} {L : List S} {s : S} {c : Nat} (hc : c ≤ 3) : (rowC nx L s c).length = 3 := by
  simp [rowC, suc]; omega
theorem rowC_succ {nx : S → Int → S} {L : List S} {s : S} {c : Nat} (hc : c < 3) : (rowC nx L s c).set c ((meets L ((suc nx s).take (c + 1))).idxOf (nx s c) : Int) = rowC nx L s (c + 1) := by
  have hl : ((suc nx s).take c).length = c := by simp [suc]; omega
  have hp : meets L ((suc nx s).take c) <+: meets L ((suc nx s).take (c + 1)) := by rw [suc_take hc, meets_snoc]; exact meet_prefix _ _
  unfold rowC
  rw [List.set_append_right _ _ (by rw [List.length_map, hl]; exact Nat.le_refl _), List.length_map, hl, Nat.sub_self, show 3 - c = (3 - (c + 1)) + 1 by omega, List.replicate_succ, List.set_cons_zero]
  rw [suc_take hc, List.map_append, List.append_assoc]
  congr 1
  · refine List.map_congr_left fun t ht => ?_
    rw [← suc_take hc, idxOf_prefix hp (mem_meets.2 (.inr ht))]
theorem rowC_done {nx : S → Int → S} {L : List S} {s : S} : rowC nx L s 3 = rowL nx (meets L (suc nx s)) s := by
  simp [rowC, rowL, suc]
theorem rowL_prefix {nx : S → Int → S} {L M : List S} (h : L <+: M) {s : S} (hs : ∀ t ∈ suc nx s, t ∈ L) : rowL nx M s = rowL nx L s := by
  refine List.map_congr_left fun t ht => ?_
  rw [idxOf_prefix h (hs t ht)]
/-- What is known of the list when one more has been looked at. -/
theorem metK_next {nx : S → Int → S} {s0 s : S} {k : Nat} (hsk : (metK nx s0 k)[k]? = some s) : (metK nx s0 (k + 1)).take (k + 1) = (metK nx s0 k).take k ++ [s] ∧ ((metK nx s0 k).take k).map (rowL nx (metK nx s0 k)) ++ [rowL nx (metK nx s0 (k + 1)) s] = ((metK nx s0 (k + 1)).take (k + 1)).map (rowL nx (metK nx s0 (k + 1))) := by
  obtain ⟨hkl, hs⟩ := List.getElem?_eq_some_iff.1 hsk
  have hpre := metK_succ_prefix (nx := nx) (s0 := s0) k
  have h1 : (metK nx s0 (k + 1)).take (k + 1) = (metK nx s0 k).take k ++ [s] := by
    obtain ⟨r, hr⟩ := hpre
    rw [← hr, List.take_append_of_le_length (by omega), take_snoc hkl, hs]
  refine ⟨h1, ?_⟩
  rw [h1, List.map_append]
  congr 1
  refine List.map_congr_left fun t ht => ?_
  obtain ⟨i, hi, e⟩ := List.mem_iff_getElem.1 ht
  simp at hi
  refine (rowL_prefix hpre fun u hu => ?_).symm
  refine metK_suc (k := k) (i := i) (s := t) (by omega) ?_ u hu
  rw [← e, List.getElem_take, List.getElem?_eq_getElem (by omega)]
theorem autoL_rows (nx : S → Int → S) (fin : S → Bool) (L : List S) : autoL nx fin L = ⟨L.map (rowL nx L), L.map fin⟩ := rfl
end

set_option maxRecDepth 100000 in
theorem c_exploredInt (s0 : Int) (most : Nat) (hm1 : 1 ≤ most) (hm2 : most ≤ 2000) (nx : Int → Int → Int) (fin : Int → Bool) (p : Int → Prop) (h0 : p s0) (hp : ∀ s c, p s → 0 ≤ c ∧ c < 3 → p (nx s c)) (SN SE : List D → (D → Prop) → Prop)
    (hN : ∀ s (c : Int), p s → 0 ≤ c ∧ c < 3 → ∀ K : D → Prop, K (iD (nx s c)) → SN [iD s, iD c] K) (hE : ∀ s, p s → ∀ K : D → Prop, K (.bool (fin s)) → SE [iD s] K) :
    TCalls Try.prog 70 [.d (iD s0), iA most, .clo SN, .clo SE] fun r =>
      (∃ k, (metK nx s0 k).length ≤ k ∧ (metK nx s0 k).length ≤ most ∧ r = [(autoL nx fin (metK nx s0 k)).d, .list ((metK nx s0 k).map iD), .bool true]) ∨
      (∃ k, most < (metK nx s0 k).length ∧ r = [(Df.mk [] []).d, .list [], .bool false]) := by
  have hkey : ∀ s t : Int, keyEq (iD s) (iD t) = decide (s = t) := fun s t => by simp [keyEq, Bool.beq_eq_decide_eq]
  refine tcalls_intro Ty.mixed Try.func70 rfl rfl rfl [] (by kernel_rfl) (by simp) ?_
  simp [iD]
  refine ⟨rfl, ?_⟩
  refine LoopVC.wk (Wk.adoptBx 1300 0 2301 1 (cs := [.nl, .nl]) (by simp) rfl (by simp)) ?_
  refine LoopVC.wk (Wk.adoptBx 1300 1 2302 1 (cs := [.sl 1 2301 0 0, .nl]) (by simp) rfl (by simp)) ?_
  refine LoopVC.at { k : Nat // k ≤ (metK nx s0 k).length ∧ (metK nx s0 k).length ≤ most } (fun k => [(1, iA most), (2, .clo SN), (3, .clo SE), (8, .ptr 800 0), (11, .mp 2000), (12, .sl 1 2400 0 (metK nx s0 k.1).length), (13, .ptr 1300 0), (14, iA k.1)])
    (fun k => [(800, .bx [.nl, .nl]), (1300, .bx [.sl 1 2301 0 k.1, .sl 1 2302 0 k.1]), (2000, .mb (numE iD (metK nx s0 k.1))), (2301, .ar 1 (((metK nx s0 k.1).take k.1).map fun s => intsD (rowL nx (metK nx s0 k.1) s))), (2302, .ar 1 (((metK nx s0 k.1).take k.1).map fun s => bD (fin s))), (2400, .ar 1 ((metK nx s0 k.1).map iD))])
    [800, 1300, 2000, 2301, 2302, 2400] (fun k => most + 1 - k.1) ⟨0, by simp [metK]; omega⟩ (by simp [metK]) (by simp [metK, numE, iD]) ?_
  rintro ⟨k, hk1, hk2⟩
  have hstep : ∀ s, (metK nx s0 k)[k]? = some s → metK nx s0 (k + 1) = meets (metK nx s0 k) (suc nx s) := fun s hs => by simp only [metK, hs]
  have hmem := metK_ind (nx := nx) (s0 := s0) (p := p) h0 (fun s hs => ⟨hp s 0 hs (by omega), hp s 1 hs (by omega), hp s 2 hs (by omega)⟩) k
  have hold := fun i s (hi : i < k) hs => metK_suc (nx := nx) (s0 := s0) (k := k) (i := i) (s := s) hi hs
  have hpre := metK_succ_prefix (nx := nx) (s0 := s0) k
  rcases Nat.lt_or_ge k (metK nx s0 k).length with hkl | hkl
  · obtain ⟨s, hsk⟩ : ∃ s, (metK nx s0 k)[k]? = some s := ⟨_, List.getElem?_eq_getElem hkl⟩
    have hms := hstep s hsk
    have hps := hmem s (List.mem_of_getElem? hsk)
    simp [show (k : Int) < (metK nx s0 k).length by omega]
    refine LoopVC.at { c : Nat // c ≤ 3 ∧ (meets (metK nx s0 k) ((suc nx s).take c)).length ≤ most } (fun c => [(1, iA most), (2, .clo SN), (3, .clo SE), (8, .ptr 800 0), (11, .mp 2000), (12, .sl 1 2400 0 (meets (metK nx s0 k) ((suc nx s).take c.1)).length), (13, .ptr 1300 0), (14, iA k), (15, .sl 1 3100 0 3), (32, iA c.1)])
      (fun c => [(800, .bx [.nl, .nl]), (1300, .bx [.sl 1 2301 0 k, .sl 1 2302 0 k]), (2000, .mb (numE iD (meets (metK nx s0 k) ((suc nx s).take c.1)))), (2301, .ar 1 (((metK nx s0 k).take k).map fun s => intsD (rowL nx (metK nx s0 k) s))), (2302, .ar 1 (((metK nx s0 k).take k).map fun s => bD (fin s))), (2400, .ar 1 ((meets (metK nx s0 k) ((suc nx s).take c.1)).map iD)), (3100, .ar 1 ((rowC nx (metK nx s0 k) s c.1).map iD))])
      [800, 1300, 2000, 2301, 2302, 2400, 3100] (fun c => 3 - c.1) ⟨0, by simp [meets]; omega⟩ (by simp [meets]) (by simp [meets, rowC]; skip) ?_
    rintro ⟨c, hc, hlc⟩
    rcases Nat.lt_or_ge c 3 with hc3 | hc3
    · have hpc : metK nx s0 k <+: meets (metK nx s0 k) ((suc nx s).take c) := meets_prefix _ _
      have hskc : (meets (metK nx s0 k) ((suc nx s).take c))[k]? = some s := by
        obtain ⟨r, hr⟩ := hpc
        rw [← hr, List.getElem?_append_left hkl]; exact hsk
      have hlen := hpc.length_le
      have hsn : meets (metK nx s0 k) ((suc nx s).take (c + 1)) = meet (meets (metK nx s0 k) ((suc nx s).take c)) (nx s c) := by rw [suc_take hc3, meets_snoc]
      have hrc := rowC_len (nx := nx) (L := metK nx s0 k) (s := s) hc
      have hrs := rowC_succ (nx := nx) (L := metK nx s0 k) (s := s) hc3
      have hfin : meets (metK nx s0 k) ((suc nx s).take (c + 1)) <+: metK nx s0 (k + 1) := by
        rw [hms]
        have e : meets (metK nx s0 k) (suc nx s) = meets (meets (metK nx s0 k) ((suc nx s).take (c + 1))) ((suc nx s).drop (c + 1)) := by
          unfold meets; rw [← List.foldl_append, List.take_append_drop]
        rw [e]; exact meets_prefix _ _
      rw [hsn] at hrs hfin
      obtain ⟨hkM, hskM⟩ := List.getElem?_eq_some_iff.1 hskc
      simp [show (c : Int) < 3 by omega, hkM, hskM, iD]
      refine hN s c hps (by omega) _ ?_
      have hk1 : ∀ t : Int, keyOk (.one .i64) (iD t) := fun t => by simp [keyOk]
      have hk2 : ∀ (M : List Int) (a b : D), (a, b) ∈ numE iD M → keyOk (.one .i64) a := fun M a b h => by
        simp only [numE, List.mem_map] at h
        obtain ⟨q, _, e⟩ := h
        rw [Prod.mk.injEq] at e
        rw [← e.1]; exact hk1 q.1
      have hkx := hk1 (nx s c)
      have hk2c := hk2 (meets (metK nx s0 k) ((suc nx s).take c))
      by_cases hin : nx s c ∈ meets (metK nx s0 k) ((suc nx s).take c)
      · have hmg := mget_num hkey hin
        have hmt : meet (meets (metK nx s0 k) ((suc nx s).take c)) (nx s c) = meets (metK nx s0 k) ((suc nx s).take c) := by unfold meet; rw [if_pos hin]
        rw [hmt] at hrs hsn hfin
        have hmh : mhas (numE iD (meets (metK nx s0 k) ((suc nx s).take c))) (iD (nx s c)) = true := by rw [mhas_num hkey]; simpa using hin
        have hrsD : ((rowC nx (metK nx s0 k) s c).map iD).set c (.int .i64 ((meets (metK nx s0 k) ((suc nx s).take c)).idxOf (nx s c) : Int)) = (rowC nx (metK nx s0 k) s (c + 1)).map iD := by rw [← hrs, List.map_set]
        skip
        simp [-keyOk, hmh, hmg, hkx, hrc, hc3, iD]
        refine ⟨hk2c, by omega, c + 1, .mk ?_ ?_, ⟨hc3, by rw [hsn]; exact hlc⟩, by omega⟩
        · simp [hsn]; exact wrap64 (by omega) (by omega)
        · simp [hsn, hrsD]
      · have hmh : mhas (numE iD (meets (metK nx s0 k) ((suc nx s).take c))) (iD (nx s c)) = false := by rw [mhas_num hkey]; simpa using hin
        have hmt : meet (meets (metK nx s0 k) ((suc nx s).take c)) (nx s c) = meets (metK nx s0 k) ((suc nx s).take c) ++ [nx s c] := by unfold meet; rw [if_neg hin]
        rw [hmt] at hrs hsn hfin
        have hmg := mget_num hkey (L := meets (metK nx s0 k) ((suc nx s).take c) ++ [nx s c]) (t := nx s c) (by simp)
        rw [numE_snoc] at hmg
        have hrsD : ((rowC nx (metK nx s0 k) s c).map iD).set c (.int .i64 ((meets (metK nx s0 k) ((suc nx s).take c) ++ [nx s c]).idxOf (nx s c) : Int)) = (rowC nx (metK nx s0 k) s (c + 1)).map iD := by rw [← hrs, List.map_set]
        skip
        simp [-keyOk, hmh, hmg, hkx, hrc, hc3, iD]
        refine ⟨hk2c, fun hm => ⟨⟨k + 1, ?_⟩, by simp [Df.d]⟩, fun hm => ⟨hk2c, ⟨by omega, by omega⟩, ?_, by omega, c + 1, .mk ?_ ?_, ⟨hc3, ?_⟩, by omega⟩⟩
        · have := hfin.length_le
          simp at this; omega
        · rintro a b (h | ⟨rfl, _⟩)
          · exact hk2c a b h
          · exact hkx
        · simp [hsn]; exact wrap64 (by omega) (by omega)
        · simp [hsn, hrsD, numE_snoc, iD]
        · rw [hsn]; simp; omega
    · have : c = 3 := by omega
      subst this
      have ht3 : (suc nx s).take 3 = suc nx s := by simp [suc]
      have hrc := rowC_len (nx := nx) (L := metK nx s0 k) (s := s) (c := 3) (by omega)
      obtain ⟨hn1, hn2⟩ := metK_next hsk
      have hskc : (meets (metK nx s0 k) (suc nx s))[k]? = some s := by
        obtain ⟨r, hr⟩ := meets_prefix (suc nx s) (metK nx s0 k)
        rw [← hr, List.getElem?_append_left hkl]; exact hsk
      obtain ⟨hkM, hskM⟩ := List.getElem?_eq_some_iff.1 hskc
      have hrd : rowC nx (metK nx s0 k) s 3 = rowL nx (metK nx s0 (k + 1)) s := by rw [rowC_done, hms]
      rw [ht3] at hlc
      simp [ht3]
      refine ⟨by rw [hrc]; exact Nat.le_refl _, ⟨by omega, by omega, by omega⟩, ?_⟩
      refine .one (sch [.pur 0, .pur 1, .pur 2, .pur 3, .pur 4, .pur 5, .pur 6, .eff 7 [0, 1], .eff 8 [0, 1], .eff 9 [], .pur 10, .eff 11 []]) (by kernel_rfl) ?_
      simp [hkM, hskM, iD]
      refine hE s hps _ ?_
      simp [hkM, hskM, iD]
      refine ⟨⟨by omega, by omega, by omega⟩, k + 1, .mk ?_ ?_, ⟨?_, ?_⟩, ?_⟩
      · simp [hms]; exact wrap64 (by omega) (by omega)
      · have hn2D : ((metK nx s0 k).take k).map (fun s => intsD (rowL nx (metK nx s0 k) s)) ++ [intsD (rowL nx (metK nx s0 (k + 1)) s)] = ((metK nx s0 (k + 1)).take (k + 1)).map fun s => intsD (rowL nx (metK nx s0 (k + 1)) s) := by
          have := congrArg (List.map intsD) hn2
          simpa [Function.comp_def] using this
        have hn1D : ((metK nx s0 k).take k).map (fun s => bD (fin s)) ++ [bD (fin s)] = ((metK nx s0 (k + 1)).take (k + 1)).map fun s => bD (fin s) := by rw [hn1]; simp
        have htr : List.take 3 ((rowC nx (metK nx s0 k) s 3).map iD) = (rowL nx (metK nx s0 (k + 1)) s).map iD := by
          rw [List.take_of_length_le (by rw [List.length_map, hrc]; exact Nat.le_refl _), hrd]
        simp only [List.map_take] at hn2D hn1D
        rw [hms] at hn2D hn1D htr
        simp [htr, hn2D, hn1D, hms]
      · have := hpre.length_le
        rw [hms] at this ⊢
        have h2 := (List.getElem?_eq_some_iff.1 hskc).1
        omega
      · rw [hms]; exact hlc
      · omega
  · have hkk : k = (metK nx s0 k).length := by omega
    simp [show ¬ (k : Int) < (metK nx s0 k).length by omega]
    refine ⟨by omega, k, by omega, hk2, ?_, takeM _ _⟩
    have ht : ∀ {α : Type} (f : Int → α), List.take k (List.take k (List.map f (metK nx s0 k))) = (metK nx s0 k).map f := fun f => by
      rw [List.take_of_length_le (by simp; omega), List.take_of_length_le (by simp; omega)]
    rw [ht, ht, autoL_rows]
    simp [Df.d]

set_option maxRecDepth 100000 in
theorem c_exploredPair (s0 : Pr) (most : Nat) (hm1 : 1 ≤ most) (hm2 : most ≤ 2000) (nx : Pr → Int → Pr) (fin : Pr → Bool) (p : Pr → Prop) (h0 : p s0) (hp : ∀ s c, p s → 0 ≤ c ∧ c < 3 → p (nx s c)) (SN SE : List D → (D → Prop) → Prop)
    (hN : ∀ s (c : Int), p s → 0 ≤ c ∧ c < 3 → ∀ K : D → Prop, K (pD (nx s c)) → SN [pD s, iD c] K) (hE : ∀ s, p s → ∀ K : D → Prop, K (.bool (fin s)) → SE [pD s] K) :
    TCalls Try.prog 46 [.d (pD s0), iA most, .clo SN, .clo SE] fun r =>
      (∃ k, (metK nx s0 k).length ≤ k ∧ (metK nx s0 k).length ≤ most ∧ r = [(autoL nx fin (metK nx s0 k)).d, .list ((metK nx s0 k).map pD), .bool true]) ∨
      (∃ k, most < (metK nx s0 k).length ∧ r = [(Df.mk [] []).d, .list [], .bool false]) := by
  have hkey : ∀ s t : Pr, keyEq (pD s) (pD t) = decide (s = t) := key_pD
  refine tcalls_intro Ty.mixed Try.func46 rfl rfl rfl [4] (by kernel_rfl) (by simp) ?_
  simp [pD]
  refine ⟨rfl, ?_⟩
  refine LoopVC.wk (Wk.adoptBx 1300 0 2301 1 (cs := [.nl, .nl]) (by simp) rfl (by simp)) ?_
  refine LoopVC.wk (Wk.adoptBx 1300 1 2302 1 (cs := [.sl 1 2301 0 0, .nl]) (by simp) rfl (by simp)) ?_
  refine LoopVC.at { k : Nat // k ≤ (metK nx s0 k).length ∧ (metK nx s0 k).length ≤ most } (fun k => [(1, iA most), (2, .clo SN), (3, .clo SE), (4, .dp [iA s0.a, iA s0.b]), (8, .ptr 800 0), (11, .mp 2000), (12, .sl 2 2400 0 (metK nx s0 k.1).length), (13, .ptr 1300 0), (14, iA k.1)])
    (fun k => [(800, .bx [.nl, .nl]), (1300, .bx [.sl 1 2301 0 k.1, .sl 1 2302 0 k.1]), (2000, .mb (numE pD (metK nx s0 k.1))), (2301, .ar 1 (((metK nx s0 k.1).take k.1).map fun s => intsD (rowL nx (metK nx s0 k.1) s))), (2302, .ar 1 (((metK nx s0 k.1).take k.1).map fun s => bD (fin s))), (2400, .ar 2 ((metK nx s0 k.1).map pD))])
    [800, 1300, 2000, 2301, 2302, 2400] (fun k => most + 1 - k.1) ⟨0, by simp [metK]; omega⟩ (by simp [metK]) (by simp [metK, numE, pD]) ?_
  rintro ⟨k, hk1, hk2⟩
  have hstep : ∀ s, (metK nx s0 k)[k]? = some s → metK nx s0 (k + 1) = meets (metK nx s0 k) (suc nx s) := fun s hs => by simp only [metK, hs]
  have hmem := metK_ind (nx := nx) (s0 := s0) (p := p) h0 (fun s hs => ⟨hp s 0 hs (by omega), hp s 1 hs (by omega), hp s 2 hs (by omega)⟩) k
  have hold := fun i s (hi : i < k) hs => metK_suc (nx := nx) (s0 := s0) (k := k) (i := i) (s := s) hi hs
  have hpre := metK_succ_prefix (nx := nx) (s0 := s0) k
  rcases Nat.lt_or_ge k (metK nx s0 k).length with hkl | hkl
  · obtain ⟨s, hsk⟩ : ∃ s, (metK nx s0 k)[k]? = some s := ⟨_, List.getElem?_eq_getElem hkl⟩
    have hms := hstep s hsk
    have hps := hmem s (List.mem_of_getElem? hsk)
    simp [show (k : Int) < (metK nx s0 k).length by omega]
    refine LoopVC.at { c : Nat // c ≤ 3 ∧ (meets (metK nx s0 k) ((suc nx s).take c)).length ≤ most } (fun c => [(1, iA most), (2, .clo SN), (3, .clo SE), (4, .dp [iA s0.a, iA s0.b]), (8, .ptr 800 0), (11, .mp 2000), (12, .sl 2 2400 0 (meets (metK nx s0 k) ((suc nx s).take c.1)).length), (13, .ptr 1300 0), (14, iA k), (15, .sl 1 3100 0 3), (32, iA c.1)])
      (fun c => [(800, .bx [.nl, .nl]), (1300, .bx [.sl 1 2301 0 k, .sl 1 2302 0 k]), (2000, .mb (numE pD (meets (metK nx s0 k) ((suc nx s).take c.1)))), (2301, .ar 1 (((metK nx s0 k).take k).map fun s => intsD (rowL nx (metK nx s0 k) s))), (2302, .ar 1 (((metK nx s0 k).take k).map fun s => bD (fin s))), (2400, .ar 2 ((meets (metK nx s0 k) ((suc nx s).take c.1)).map pD)), (3100, .ar 1 ((rowC nx (metK nx s0 k) s c.1).map iD))])
      [800, 1300, 2000, 2301, 2302, 2400, 3100] (fun c => 3 - c.1) ⟨0, by simp [meets]; omega⟩ (by simp [meets]) (by simp [meets, rowC]; skip) ?_
    rintro ⟨c, hc, hlc⟩
    rcases Nat.lt_or_ge c 3 with hc3 | hc3
    · have hpc : metK nx s0 k <+: meets (metK nx s0 k) ((suc nx s).take c) := meets_prefix _ _
      have hskc : (meets (metK nx s0 k) ((suc nx s).take c))[k]? = some s := by
        obtain ⟨r, hr⟩ := hpc
        rw [← hr, List.getElem?_append_left hkl]; exact hsk
      have hlen := hpc.length_le
      have hsn : meets (metK nx s0 k) ((suc nx s).take (c + 1)) = meet (meets (metK nx s0 k) ((suc nx s).take c)) (nx s c) := by rw [suc_take hc3, meets_snoc]
      have hrc := rowC_len (nx := nx) (L := metK nx s0 k) (s := s) hc
      have hrs := rowC_succ (nx := nx) (L := metK nx s0 k) (s := s) hc3
      have hfin : meets (metK nx s0 k) ((suc nx s).take (c + 1)) <+: metK nx s0 (k + 1) := by
        rw [hms]
        have e : meets (metK nx s0 k) (suc nx s) = meets (meets (metK nx s0 k) ((suc nx s).take (c + 1))) ((suc nx s).drop (c + 1)) := by
          unfold meets; rw [← List.foldl_append, List.take_append_drop]
        rw [e]; exact meets_prefix _ _
      rw [hsn] at hrs hfin
      obtain ⟨hkM, hskM⟩ := List.getElem?_eq_some_iff.1 hskc
      simp [show (c : Int) < 3 by omega, hkM, hskM, pD]
      refine hN s c hps (by omega) _ ?_
      have hk1 : ∀ t : Pr, keyOk (.row [.i64, .i64]) (pD t) := fun t => by simp [keyOk, aggOk, pD]
      have hk2 : ∀ (M : List Pr) (a b : D), (a, b) ∈ numE pD M → keyOk (.row [.i64, .i64]) a := fun M a b h => by
        simp only [numE, List.mem_map] at h
        obtain ⟨q, _, e⟩ := h
        rw [Prod.mk.injEq] at e
        rw [← e.1]; exact hk1 q.1
      have hkx := hk1 (nx s c)
      have hk2c := hk2 (meets (metK nx s0 k) ((suc nx s).take c))
      by_cases hin : nx s c ∈ meets (metK nx s0 k) ((suc nx s).take c)
      · have hmg := mget_num hkey hin
        have hmt : meet (meets (metK nx s0 k) ((suc nx s).take c)) (nx s c) = meets (metK nx s0 k) ((suc nx s).take c) := by unfold meet; rw [if_pos hin]
        rw [hmt] at hrs hsn hfin
        have hmh : mhas (numE pD (meets (metK nx s0 k) ((suc nx s).take c))) (pD (nx s c)) = true := by rw [mhas_num hkey]; simpa using hin
        have hrsD : ((rowC nx (metK nx s0 k) s c).map iD).set c (.int .i64 ((meets (metK nx s0 k) ((suc nx s).take c)).idxOf (nx s c) : Int)) = (rowC nx (metK nx s0 k) s (c + 1)).map iD := by rw [← hrs, List.map_set]
        simp only [pD] at hmh hmg hkx
        simp [-keyOk, hmh, hmg, hkx, hrc, hc3, pD]
        refine ⟨hk2c, by omega, c + 1, .mk ?_ ?_, ⟨hc3, by rw [hsn]; exact hlc⟩, by omega⟩
        · simp [hsn]; exact wrap64 (by omega) (by omega)
        · simp [hsn, hrsD]
      · have hmh : mhas (numE pD (meets (metK nx s0 k) ((suc nx s).take c))) (pD (nx s c)) = false := by rw [mhas_num hkey]; simpa using hin
        have hmt : meet (meets (metK nx s0 k) ((suc nx s).take c)) (nx s c) = meets (metK nx s0 k) ((suc nx s).take c) ++ [nx s c] := by unfold meet; rw [if_neg hin]
        rw [hmt] at hrs hsn hfin
        have hmg := mget_num hkey (L := meets (metK nx s0 k) ((suc nx s).take c) ++ [nx s c]) (t := nx s c) (by simp)
        rw [numE_snoc] at hmg
        have hrsD : ((rowC nx (metK nx s0 k) s c).map iD).set c (.int .i64 ((meets (metK nx s0 k) ((suc nx s).take c) ++ [nx s c]).idxOf (nx s c) : Int)) = (rowC nx (metK nx s0 k) s (c + 1)).map iD := by rw [← hrs, List.map_set]
        simp only [pD] at hmh hmg hkx
        simp [-keyOk, hmh, hmg, hkx, hrc, hc3, pD]
        refine ⟨hk2c, fun hm => ⟨⟨k + 1, ?_⟩, by simp [Df.d]⟩, fun hm => ⟨hk2c, ⟨by omega, by omega⟩, ?_, by omega, c + 1, .mk ?_ ?_, ⟨hc3, ?_⟩, by omega⟩⟩
        · have := hfin.length_le
          simp at this; omega
        · rintro a b (h | ⟨rfl, _⟩)
          · exact hk2c a b h
          · exact hkx
        · simp [hsn]; exact wrap64 (by omega) (by omega)
        · simp [hsn, hrsD, numE_snoc, pD]
        · rw [hsn]; simp; omega
    · have : c = 3 := by omega
      subst this
      have ht3 : (suc nx s).take 3 = suc nx s := by simp [suc]
      have hrc := rowC_len (nx := nx) (L := metK nx s0 k) (s := s) (c := 3) (by omega)
      obtain ⟨hn1, hn2⟩ := metK_next hsk
      have hskc : (meets (metK nx s0 k) (suc nx s))[k]? = some s := by
        obtain ⟨r, hr⟩ := meets_prefix (suc nx s) (metK nx s0 k)
        rw [← hr, List.getElem?_append_left hkl]; exact hsk
      obtain ⟨hkM, hskM⟩ := List.getElem?_eq_some_iff.1 hskc
      have hrd : rowC nx (metK nx s0 k) s 3 = rowL nx (metK nx s0 (k + 1)) s := by rw [rowC_done, hms]
      rw [ht3] at hlc
      simp [ht3]
      refine ⟨by rw [hrc]; exact Nat.le_refl _, ⟨by omega, by omega, by omega⟩, ?_⟩
      refine .one (sch [.pur 0, .pur 1, .pur 2, .pur 3, .pur 4, .pur 5, .pur 6, .eff 7 [0, 1], .eff 8 [0, 1], .eff 9 [], .pur 10, .eff 11 []]) (by kernel_rfl) ?_
      simp [hkM, hskM, pD]
      refine hE s hps _ ?_
      simp [hkM, hskM, pD]
      refine ⟨⟨by omega, by omega, by omega⟩, k + 1, .mk ?_ ?_, ⟨?_, ?_⟩, ?_⟩
      · simp [hms]; exact wrap64 (by omega) (by omega)
      · have hn2D : ((metK nx s0 k).take k).map (fun s => intsD (rowL nx (metK nx s0 k) s)) ++ [intsD (rowL nx (metK nx s0 (k + 1)) s)] = ((metK nx s0 (k + 1)).take (k + 1)).map fun s => intsD (rowL nx (metK nx s0 (k + 1)) s) := by
          have := congrArg (List.map intsD) hn2
          simpa [Function.comp_def] using this
        have hn1D : ((metK nx s0 k).take k).map (fun s => bD (fin s)) ++ [bD (fin s)] = ((metK nx s0 (k + 1)).take (k + 1)).map fun s => bD (fin s) := by rw [hn1]; simp
        have htr : List.take 3 ((rowC nx (metK nx s0 k) s 3).map iD) = (rowL nx (metK nx s0 (k + 1)) s).map iD := by
          rw [List.take_of_length_le (by rw [List.length_map, hrc]; exact Nat.le_refl _), hrd]
        simp only [List.map_take] at hn2D hn1D
        rw [hms] at hn2D hn1D htr
        simp [htr, hn2D, hn1D, hms]
      · have := hpre.length_le
        rw [hms] at this ⊢
        have h2 := (List.getElem?_eq_some_iff.1 hskc).1
        omega
      · rw [hms]; exact hlc
      · omega
  · have hkk : k = (metK nx s0 k).length := by omega
    simp [show ¬ (k : Int) < (metK nx s0 k).length by omega]
    refine ⟨by omega, k, by omega, hk2, ?_, takeM _ _⟩
    have ht : ∀ {α : Type} (f : Pr → α), List.take k (List.take k (List.map f (metK nx s0 k))) = (metK nx s0 k).map f := fun f => by
      rw [List.take_of_length_le (by simp; omega), List.take_of_length_le (by simp; omega)]
    rw [ht, ht, autoL_rows]
    simp [Df.d]

end Go.Fw
