/- The table of the numbers of words, as the program makes it. -/
import Derived.Test.YtmodfeaneggloaaRa
import Derived.Test.YtmodfeaneggloaaOr
set_option linter.unusedSimpArgs false
set_option linter.unusedVariables false
namespace Go.Fw
open Go Go.Proofs
set_option linter.unusedSectionVars false
set_option linter.unnecessarySimpa false

def cq (a : Df) (k : Nat) (q : Int) : Int := (cnt k (a.lang q) : Int)
def crow (a : Df) (k : Nat) : List Int := (List.range a.next.length).map fun (q : Nat) => cq a k q
theorem crow_len (a : Df) (k : Nat) : (crow a k).length = a.next.length := by simp [crow]
theorem crow_get {a : Df} {k q : Nat} (h : q < a.next.length) : (crow a k)[q]? = some (cq a k q) ∧ ∀ h, (crow a k)[q]'h = cq a k q := by
  simp [crow, h]
theorem cq_bd (a : Df) {k : Nat} (h : k ≤ 30) (q : Int) : 0 ≤ cq a k q ∧ cq a k q ≤ 205891132094649 := by
  have h1 := cnt_le k (a.lang q)
  have h2 : 3 ^ k ≤ 3 ^ 30 := Nat.pow_le_pow_right (by decide) h
  have h3 : (3 ^ 30 : Nat) = 205891132094649 := by decide
  unfold cq; omega
theorem cq_zero (a : Df) (q : Int) : cq a 0 q = if a.fin q then 1 else 0 := by
  unfold cq; rw [cnt_fin]; split <;> rfl
/-- The words that begin with the first letters. -/
def cqs (a : Df) (k : Nat) (q : Int) (c : Nat) : Int := ((List.range c).map fun (l : Nat) => cq a k (a.go q l)).sum
theorem cqs_zero (a : Df) (k : Nat) (q : Int) : cqs a k q 0 = 0 := rfl
theorem cqs_succ (a : Df) (k : Nat) (q : Int) (c : Nat) : cqs a k q (c + 1) = cqs a k q c + cq a k (a.go q c) := by
  unfold cqs; rw [List.range_succ]; simp
theorem cqs_three (a : Df) (k : Nat) (q : Int) : cqs a k q 3 = cq a (k + 1) q := by
  simp [cqs_succ, cqs_zero, cq, cnt_go]
theorem cqs_bd (a : Df) {k : Nat} (h : k ≤ 30) (q : Int) {c : Nat} (hc : c ≤ 3) : 0 ≤ cqs a k q c ∧ cqs a k q c ≤ 617673396283947 := by
  have h0 := cq_bd a h (a.go q 0)
  have h1 := cq_bd a h (a.go q 1)
  have h2 := cq_bd a h (a.go q 2)
  obtain rfl | rfl | rfl | rfl : c = 0 ∨ c = 1 ∨ c = 2 ∨ c = 3 := by omega
  all_goals simp [cqs_succ, cqs_zero]
  all_goals omega
theorem crow_take {a : Df} {k s : Nat} (h : s < a.next.length) : (crow a k).take (s + 1) = (crow a k).take s ++ [cq a k s] := by
  rw [List.take_add_one, (crow_get h).1]; rfl

def rowsC (a : Df) (k : Nat) : List D := (List.range k).map fun i => intsD (crow a i)
def boxC (a : Df) (k : Nat) : List AV := (rowsC a k).map AV.d ++ List.replicate (31 - k) AV.nl
def cellsC (a : Df) (k : Nat) (x : AV) : List AV := (rowsC a k).map AV.d ++ x :: List.replicate (30 - k) AV.nl
theorem rowsC_len (a : Df) (k : Nat) : (rowsC a k).length = k := by simp [rowsC]
theorem boxC_len (a : Df) {k : Nat} (h : k ≤ 31) : (boxC a k).length = 31 := by simp [boxC, rowsC_len]; omega
theorem cellsC_len (a : Df) {k : Nat} (h : k ≤ 30) (x : AV) : (cellsC a k x).length = 31 := by simp [cellsC, rowsC_len]; omega
theorem boxC_cells (a : Df) {k : Nat} (h : k ≤ 30) : boxC a k = cellsC a k .nl := by
  unfold boxC cellsC
  rw [show 31 - k = (30 - k) + 1 by omega, List.replicate_succ]
theorem cellsC_set (a : Df) (k : Nat) (x y : AV) : (cellsC a k x).set k y = cellsC a k y := by
  simp [cellsC, List.set_append, rowsC_len]
theorem cellsC_next (a : Df) (k : Nat) : cellsC a k (.d (intsD (crow a k))) = boxC a (k + 1) := by
  unfold cellsC boxC rowsC
  rw [List.range_succ, List.map_append, List.map_append, List.append_assoc, show 31 - (k + 1) = 30 - k by omega]; rfl
theorem cellsC_drop (a : Df) (k : Nat) (x : AV) : (cellsC a k x).drop k = x :: List.replicate (30 - k) AV.nl := by
  unfold cellsC
  rw [List.drop_append_of_le_length (by simp [rowsC_len])]
  rw [List.drop_of_length_le (by simp [rowsC_len])]; rfl
theorem cellsC_get (a : Df) (k : Nat) (x : AV) : (cellsC a k x)[k]? = some x := by
  unfold cellsC
  rw [List.getElem?_append_right (by simp [rowsC_len])]
  simp [rowsC_len]
theorem cellsC_drop_lt (a : Df) {k i : Nat} (h : i < k) (x : AV) : (cellsC a k x).drop i = .d (intsD (crow a i)) :: (cellsC a k x).drop (i + 1) := by
  have hl : i < (cellsC a k x).length := by simp [cellsC, rowsC_len]; omega
  rw [List.drop_eq_getElem_cons hl]
  congr 1
  simp only [cellsC]
  rw [List.getElem_append_left (by simp [rowsC_len]; omega)]
  simp [rowsC]
theorem boxC_end (a : Df) : boxC a 31 = (rowsC a 31).map AV.d := by simp [boxC]
theorem midD {X : List D} {s : Nat} (hs : X.length = s) (v : D) (R : List D) : (X ++ v :: R)[s]? = some v ∧ (∀ h, (X ++ v :: R)[s]'h = v) ∧ ∀ w : D, (X ++ v :: R).set s w = X ++ w :: R := by
  subst hs
  refine ⟨by simp, fun h => by simp, fun w => by simp [List.set_append_right]⟩

theorem allD_map : ∀ cs : List D, AV.allD (cs.map .d) = some cs
  | [] => rfl
  | x :: r => by simp [AV.allD, allD_map r]
theorem setCells_all : ∀ (xs ys pre : List AV), xs.length = ys.length → setCells pre.length xs (pre ++ ys) = pre ++ xs
  | [], ys, pre, h => by
    have : ys = [] := List.length_eq_zero_iff.1 (by simpa using h.symm)
    simp [setCells, this]
  | x :: xs, [], pre, h => by simp at h
  | x :: xs, y :: ys, pre, h => by
    have ih := setCells_all xs ys (pre ++ [x]) (by simpa using h)
    simp only [List.length_append, List.length_singleton, List.append_assoc, List.singleton_append] at ih
    simp only [setCells]
    rw [← ih]
    congr 1
    simp [List.set_append]
theorem setCells_full {xs ys : List AV} (h : xs.length = ys.length) : setCells 0 xs ys = xs := setCells_all xs ys [] h
def nils : List AV := List.replicate 31 AV.nl
theorem nils_len : nils.length = 31 := rfl
def nil30 : List AV := List.replicate 30 AV.nl
theorem cellsC_zero (a : Df) (x : AV) : cellsC a 0 x = x :: nil30 := rfl
theorem kpL_ds (p : Nat → Bool) : ∀ (xs : List D) (r : List AV), AV.kpL p (xs.map AV.d ++ r) = xs.map AV.d ++ AV.kpL p r
  | [], r => rfl
  | x :: xs, r => by simp [AV.kpL, AV.kp, kpL_ds p xs r]
theorem kpL_nl (p : Nat → Bool) : ∀ n, AV.kpL p (List.replicate n AV.nl) = List.replicate n AV.nl
  | 0 => rfl
  | n + 1 => by simp [List.replicate_succ, AV.kpL, AV.kp, kpL_nl p n]
theorem cellsC_kp {p : Nat → Bool} (a : Df) (k : Nat) {x : AV} (hx : AV.kp p x = x) : AV.kpL p (cellsC a k x) = cellsC a k x := by
  unfold cellsC
  rw [kpL_ds]
  simp [AV.kpL, hx, kpL_nl]
theorem boxC_kp (p : Nat → Bool) (a : Df) (k : Nat) : AV.kpL p (boxC a k) = boxC a k := by
  unfold boxC
  rw [kpL_ds, kpL_nl]
theorem nils_kp (p : Nat → Bool) : AV.kpL p nils = nils := kpL_nl p 31
theorem nil30_kp (p : Nat → Bool) : AV.kpL p nil30 = nil30 := kpL_nl p 30
/-- The table. -/
def tabD (a : Df) : D := .agg (rowsC a 31)

def tabB (a : Df) : List AV := (rowsC a 31).map AV.d
theorem tab_store (a : Df) {ys : List AV} (h : ys.length = 31) : setCells 0 ((rowsC a 31).map AV.d) ys = tabB a := setCells_full (by simp [rowsC_len, h])
theorem tabB_kp (p : Nat → Bool) (a : Df) : AV.kpL p (tabB a) = tabB a := by
  have := kpL_ds p (rowsC a 31) []
  simp only [List.append_nil] at this
  rw [tabB, this]; rfl
theorem tabB_drop (a : Df) {i : Nat} (h : i < 31) : (tabB a).drop i = .d (intsD (crow a i)) :: (tabB a).drop (i + 1) := by
  rw [List.drop_eq_getElem_cons (by simp [tabB, rowsC_len]; omega)]
  simp [tabB, rowsC]
theorem rowsC_get (a : Df) {i : Nat} (h : i < 31) : (rowsC a 31)[i]? = some (intsD (crow a i)) ∧ ∀ h, (rowsC a 31)[i]'h = intsD (crow a i) := by
  simp [rowsC, h]
theorem rowsC_one (a : Df) : ∀ x ∈ rowsC a 31, x.isAgg = false := fun x hx => by
  simp only [rowsC, List.mem_map] at hx
  obtain ⟨i, _, rfl⟩ := hx
  rfl
set_option maxHeartbeats 1600000 in
set_option maxRecDepth 100000 in
theorem c_counts (a : Df) (h : okDf a = true) : DCalls Try.prog 65 [.d a.d] fun y => y = tabD a := by
  refine dcalls_intro Ty.mixed Try.func65 rfl rfl rfl [1] (by kernel_rfl) (by simp) ?_
  obtain ⟨n1, n2, n3⟩ := okDf_len h
  simp [Df.d]
  refine LoopVC.at { k : Nat // k ≤ 31 } (fun k => [(1, dpA a), (2, .ptr 200 0), (3, .ptr 300 0), (9, iA k.1)]) (fun k => [(200, .bx nils), (300, .bx (boxC a k.1))]) [200, 300] (fun k => 31 - k.1) ⟨0, by omega⟩ (by simp) (by simp [boxC, rowsC, nils]) ?_
  rintro ⟨k, hk⟩
  rcases Nat.lt_or_ge k 31 with hk3 | hk3
  · have hb := boxC_cells a (k := k) (by omega)
    have hset := fun x y => cellsC_set a k x y
    have hlen := fun x => cellsC_len a (k := k) (by omega) x
    have hdr := fun x => cellsC_drop a k x
    have hkz : (k : Int) < 31 := by omega
    have hkp : ∀ l : List Nat, 1600 ∈ l → AV.kpL (outU l) (cellsC a k (.sl 1 1600 0 a.next.length)) = cellsC a k (.sl 1 1600 0 a.next.length) := fun l hl => cellsC_kp a k (by simp [hl])
    rw [hb]
    simp [hkz, hset, hlen]
    refine ⟨by omega, by omega, ?_⟩
    refine LoopVC.at { s : Nat // s ≤ a.next.length } (fun s => [(1, dpA a), (2, .ptr 200 0), (3, .ptr 300 0), (4, iA k), (9, iA k), (19, .d (rowsD a.next)), (20, iA a.next.length), (21, iA s.1)]) (fun s => [(200, .bx nils), (300, .bx (cellsC a k (.sl 1 1600 0 a.next.length))), (1600, .ar 1 (((crow a k).map iD).take s.1 ++ List.replicate (a.next.length - s.1) (iD 0)))]) [200, 300, 1600] (fun s => a.next.length - s.1) ⟨0, by omega⟩ (by simp) (by simp [hkp, nils_kp]) ?_
    rintro ⟨s, hs⟩
    rcases Nat.lt_or_ge s a.next.length with hsn | hsn
    · have a1 := getD_row (xs := a.next) (i := s) [] hsn
      have hnx := okDf_row h hsn
      have hgo : ∀ c : Nat, a.go s c = (a.next.getD s []).getD c 0 := fun c => by simp [Df.go]
      have hrep : List.replicate (a.next.length - s) (iD 0) = iD 0 :: List.replicate (a.next.length - (s + 1)) (iD 0) := rep_cons hsn
      have hct : ((crow a k).map iD).take (s + 1) = ((crow a k).map iD).take s ++ [iD (cq a k s)] := by rw [← List.map_take, ← List.map_take, crow_take hsn]; simp
      have htl : (((crow a k).map iD).take s).length = s := by simp [crow_len]; omega
      have hmid := fun v R => midD htl v R
      have hsl : s < min s (crow a k).length + (a.next.length - (s + 1) + 1) := by simp [crow_len]; omega
      rw [hrep]
      generalize a.next.getD s [] = nx at *
      simp [hsn, a1]
      refine ⟨fun hk0 => ?_, fun hk0 => ?_⟩
      · have hse : s < a.ends.length := by omega
        have b0 := getD_row (xs := a.ends) (i := s) false hse
        have hfk : a.fin s = a.ends.getD s false := by simp [Df.fin]
        have hc0 := cq_zero a s
        rw [← hfk] at b0
        have hk0 : k = 0 := by omega
        subst hk0
        have hz := fun x => cellsC_zero a x
        generalize a.fin s = fs at *
        simp [hse, b0, hz, hmid, hsn, hsl]
        refine ⟨fun hf => ?_, fun hf => ?_⟩
        · rw [hf] at hc0
          refine ⟨s + 1, .mk ?_ ?_, by omega, by omega⟩
          · simp; exact wrap64 (by omega) (by omega)
          · simp [hz, hct, hc0, nils_kp, nil30_kp]
        · rw [hf] at hc0
          refine ⟨s + 1, .mk ?_ ?_, by omega, by omega⟩
          · simp; exact wrap64 (by omega) (by omega)
          · simp [hz, hct, hc0, nils_kp, nil30_kp]
      · obtain ⟨k', rfl⟩ : ∃ k', k = k' + 1 := ⟨k - 1, by omega⟩
        have hdl := cellsC_drop_lt a (k := k' + 1) (i := k') (by omega)
        have hl3 : nx.length = 3 := hnx.1
        refine LoopVC.at { c : Nat // c ≤ 3 } (fun c => [(1, dpA a), (2, .ptr 200 0), (3, .ptr 300 0), (4, iA (k' + 1 : Nat)), (5, iA s), (9, iA (k' + 1 : Nat)), (19, .d (rowsD a.next)), (20, iA a.next.length), (21, iA s), (37, .d (intsD nx)), (38, iA 3), (39, iA c.1)]) (fun c => [(200, .bx nils), (300, .bx (cellsC a (k' + 1) (.sl 1 1600 0 a.next.length))), (1600, .ar 1 (((crow a (k' + 1)).map iD).take s ++ iD (cqs a k' s c.1) :: List.replicate (a.next.length - (s + 1)) (iD 0)))]) [200, 300, 1600] (fun c => 3 - c.1) ⟨0, by omega⟩ (by simp [hl3]) (by simp [hkp, nils_kp, cqs_zero]) ?_
        rintro ⟨c, hc⟩
        rcases Nat.lt_or_ge c 3 with hc3 | hc3
        · have a2 := getD_row (xs := nx) (i := c) 0 (by omega)
          have hgs := go_st h (st_nat hsn) (c := (c : Int)) (by omega)
          have hgc := hgo c
          rw [← hgc] at a2
          have hq1 := hgs.1
          have hq2 := hgs.2
          have hsu := cqs_succ a k' s c
          have hb1 := cqs_bd a (k := k') (by omega) s (c := c + 1) (by omega)
          obtain ⟨t, ht⟩ : ∃ t : Nat, a.go s c = t := ⟨(a.go s c).toNat, by omega⟩
          rw [ht] at a2 hq1 hq2 hsu
          have htn : t < a.next.length := by omega
          obtain ⟨c1, c2⟩ := crow_get (a := a) (k := k') htn
          have c0 := crow_len a k'
          have l3 : (c : Int) < 3 := by omega
          have hw : IntKind.i64.wrap (k' : Int) = k' := wrap64 (by omega) (by omega)
          have hk1 : (k' : Int) + 1 < 31 := by omega
          have hk2 : (k' : Int) < 31 := by omega
          have hk4 : (0 : Int) ≤ (k' : Int) + 1 := by omega
          have hk5 : ((k' : Int) + 1).toNat = k' + 1 := by omega
          have hw2 : IntKind.i64.wrap (cqs a k' s c + cq a k' t) = cqs a k' s (c + 1) := by rw [hsu]; exact wrap64 (by omega) (by omega)
          simp [l3, a2, hl3, hc3]
          refine .one (sch [.pur 0, .pur 1, .pur 2, .pur 3, .pur 4, .pur 5, .pur 6, .pur 7, .pur 8, .pur 9, .pur 10, .pur 11, .pur 12, .pur 13, .pur 14, .eff 15 []]) (by kernel_rfl) ?_
          simp [hdr, hdl, hw, hk1, hk2, hk4, hk5, hmid, hsn, hsl, c1, c2, c0, htn]
          refine ⟨c + 1, .mk ?_ ?_, by omega, by omega⟩
          · simp; exact wrap64 (by omega) (by omega)
          · simp [hw2, hkp, nils_kp]
        · have : c = 3 := by omega
          subst this
          have hthree := cqs_three a k' s
          simp
          refine ⟨s + 1, .mk ?_ ?_, by omega, by omega⟩
          · simp; exact wrap64 (by omega) (by omega)
          · simp [hct, hthree, hkp, nils_kp]
    · have : s = a.next.length := by omega
      subst this
      have hcr : (crow a k).take a.next.length = crow a k := List.take_of_length_le (by simp [crow_len])
      have hnext := cellsC_next a k
      have htt : List.take a.next.length ((crow a k).map iD) = (crow a k).map iD := List.take_of_length_le (by simp [crow_len])
      simp [hcr]
      refine ⟨k + 1, (Wk.frzBx 300 k (x := .sl 1 1600 0 a.next.length) (cs := cellsC a k (.sl 1 1600 0 a.next.length)) rfl (cellsC_get a k _) rfl (by simp [crow_len]) (by simp)).trans (.mk ?_ ?_), by omega, by omega⟩
      · simp; exact wrap64 (by omega) (by omega)
      · simp [hset, htt, hnext, nils_kp, boxC_kp]
  · have : k = 31 := by omega
    subst this
    rw [boxC_end]
    have ht : List.take 31 ((rowsC a 31).map AV.d) = (rowsC a 31).map AV.d := List.take_of_length_le (by simp [rowsC_len])
    have hsc : setCells 0 ((rowsC a 31).map AV.d) nils = (rowsC a 31).map AV.d := setCells_full (by simp [rowsC_len, nils_len])
    have hone : ∀ x ∈ rowsC a 31, x.isAgg = false := fun x hx => by
      simp only [rowsC, List.mem_map] at hx
      obtain ⟨i, _, rfl⟩ := hx
      rfl
    simp [ht, rowsC_len, allD_map, tabD, nils_len, hsc]
    exact hone
end Go.Fw
