/- The framework, part Umk. -/
import Derived.Test.YteenfgdemklhcaaMf
import Derived.Test.YteenfgdemklhcaaLk
import Derived.Test.YteenfgdemklhcaaGwx
set_option linter.unusedSimpArgs false
set_option linter.unusedVariables false
/- Marks in texts, and in rows of rows. -/
namespace Go.Fw
open Go Go.Proofs
set_option linter.unusedSectionVars false
set_option linter.unnecessarySimpa false

/-! ### The text of a mark -/
def digsF : Nat → Nat → List UInt8 → List UInt8
  | 0, _, out => out
  | n + 1, k, out => if k = 0 then out else digsF n (k / 10) (UInt8.ofNat (48 + k % 10) :: out)
def mt (k : Nat) : List UInt8 := 109 :: digsF k k []
theorem digs_zero : ∀ (n : Nat) (out : List UInt8), digsF n 0 out = out
  | 0, _ => rfl
  | _ + 1, _ => rfl
theorem digs_pos {n k : Nat} {out : List UInt8} (h : 0 < k) (hn : k ≤ n) : digsF n k out = digsF (n - 1) (k / 10) (UInt8.ofNat (48 + k % 10) :: out) := by
  obtain ⟨m, rfl⟩ : ∃ m, n = m + 1 := ⟨n - 1, by omega⟩
  rw [digsF, if_neg (by omega)]; rfl
theorem dig_wrap (k : Nat) : IntKind.u8.wrap (IntKind.i64.wrap (48 + (k % 10 : Nat))) = ((48 + k % 10 : Nat) : Int) := by
  have h : k % 10 < 10 := Nat.mod_lt _ (by omega)
  generalize k % 10 = d at *
  have : ∀ n : Fin 10, IntKind.u8.wrap (IntKind.i64.wrap (48 + (n.1 : Nat))) = ((48 + n.1 : Nat) : Int) := by decide
  exact this ⟨d, h⟩

set_option maxRecDepth 100000 in
theorem c_markText (k : Nat) (h : 0 < k) (hk : k ≤ 8796093022208) : DCalls Try.prog 85 [iA k] fun y => y = sD (mt k) := by
  refine dcalls_intro Ty.mixed Try.func85 rfl rfl rfl [] (by kernel_rfl) (by simp) ?_
  simp [show ¬ ((k : Int) ≤ 0) by omega, show ¬ k = 0 by omega]
  refine LoopVC.at { p : Nat × Nat × List UInt8 // p.2.1 ≤ p.1 ∧ digsF p.1 p.2.1 p.2.2 = digsF k k [] ∧ p.2.2.length + p.2.1 ≤ k } (fun p => [(0, iA p.1.2.1), (3, sA p.1.2.2)]) (fun _ => []) [] (fun p => p.1.2.1) ⟨(k, k, []), by simp⟩ (by simp) (by simp) ?_
  rintro ⟨⟨n, q, out⟩, h1, h2, h3⟩
  simp only at h1 h2 h3
  rcases Nat.eq_zero_or_pos q with rfl | hq
  · rw [digs_zero] at h2
    have hl : (digsF k k []).length ≤ k := by rw [← h2]; omega
    simp [mt, h2]
    omega
  · rw [digs_pos hq h1] at h2
    have hw := dig_wrap q
    have hm : q % 10 < 10 := Nat.mod_lt _ (by omega)
    have ht : (q : Int).tmod 10 = ((q % 10 : Nat) : Int) := by rw [Int.tmod_eq_emod_of_nonneg (by omega)]; omega
    have hd : IntKind.i64.wrap ((q : Int) / 10) = ((q / 10 : Nat) : Int) := by rw [wrap64 (by omega) (by omega)]; omega
    have hw2 : UInt8.ofNat (IntKind.u8.wrap (IntKind.i64.wrap (48 + (q : Int) % 10))).toNat = UInt8.ofNat (48 + q % 10) := by
      rw [show (48 + (q : Int) % 10) = 48 + ((q % 10 : Nat) : Int) by omega, hw, Int.toNat_natCast]
    clear hw
    simp [hq, ht, hd]
    refine ⟨by omega, n - 1, q / 10, UInt8.ofNat (48 + q % 10) :: out, .mk ?_ (by simp), ⟨by omega, h2, by simp; omega⟩, by omega⟩
    simpa using hw2

def marksS (k n : Nat) : List (List UInt8) := (List.range n).map fun i => mt (k + i)
theorem marksS_len (k n : Nat) : (marksS k n).length = n := by simp [marksS]
theorem marksS_succ (k n : Nat) : marksS k (n + 1) = marksS k n ++ [mt (k + n)] := by simp [marksS, List.range_succ]
theorem marksS_get (k : Nat) {n i : Nat} (h : i < n) : (marksS k n)[i]'(by rw [marksS_len]; exact h) = mt (k + i) := by simp [marksS]

set_option maxRecDepth 100000 in
theorem c_markStringS (xs : List (List UInt8)) (k : Nat) (hk : 0 < k) (hk2 : k + xs.length ≤ 8796093022208) : LCalls Try.prog 53 [.sl 1 1 0 xs.length, iA k] [(1, .ar 1 (xs.map sD))] fun r bs => r = iD (k + xs.length : Nat) ∧ bs = [.ar 1 ((marksS k xs.length).map sD)] := by
  refine lcalls_intro Ty.mixed Try.func53 rfl rfl rfl [] (by kernel_rfl) (by simp) ?_
  simp
  refine LoopVC.at { p : Nat × List (List UInt8) // p.1 ≤ xs.length ∧ p.2.length = xs.length ∧ p.2.take p.1 = marksS k p.1 } (fun p => [(0, .sl 1 1 0 xs.length), (1, iA (k + p.1.1 : Nat)), (5, iA p.1.1)]) (fun p => [(1, .ar 1 (p.1.2.map sD))]) [] (fun p => xs.length - p.1.1) ⟨(0, xs), by simp [marksS]⟩ (by simp) (by simp) ?_
  rintro ⟨⟨i, ys⟩, hi, hl, ht⟩
  simp only at hi hl ht
  rcases Nat.lt_or_ge i xs.length with h | h
  · simp [h, hl]
    refine .dval (c_markText (k + i) (by omega) (by omega)) rfl (by simp) rfl ?_
    simp [h, hl]
    refine ⟨i + 1, ys.set i (mt (k + i)), .mk ?_ (by simp [List.map_set]), ⟨h, by simpa using hl, ?_⟩, by omega⟩
    · simp
      exact ⟨by rw [wrap64 (by omega) (by omega)]; omega, wrap64 (by omega) (by omega)⟩
    · rw [take_set_snoc (by omega), ht, marksS_succ]
  · have : i = xs.length := by omega
    subst this
    rw [List.take_of_length_le (by omega)] at ht
    subst ht
    simp

/-! ### One row in a row -/
def g2 (i1 i2 : Nat) (q : Nat) : Nat := if q = 1 then i1 else if q = 2 then i2 else 0

set_option maxRecDepth 100000 in
theorem c_markIntSS1 (xs : List Int) (k : Nat) (hk2 : k + xs.length ≤ 8796093022208) : MCalls Try.prog 35 [.sl 1 1 0 1, iA k] [(1, .bx [.sl 1 2 0 xs.length]), (2, .ar 1 (xs.map iD))] fun r bs => r = iD (k + xs.length : Nat) ∧ bs = [.bx [.sl 1 2 0 xs.length], .ar 1 ((marksI k xs.length).map iD)] := by
  refine mcalls_intro Ty.mixed Try.func35 rfl rfl rfl [] (by kernel_rfl) (by simp) ?_
  simp
  refine LoopVC.at Bool (fun b => [(0, .sl 1 1 0 1), (1, iA (if b then k + xs.length else k : Nat)), (5, iA (if b then 1 else 0))]) (fun b => [(1, .bx [.sl 1 2 0 xs.length]), (2, .ar 1 ((if b then marksI k xs.length else xs).map iD))]) [] (fun b => if b then 0 else 1) false (by simp) (by simp) ?_
  rintro (_ | _)
  · simp
    refine .lend1 2 (c_markIntS xs k (by omega) (by omega)) (by simp [g1, AV.ren]) rfl rfl ?_
    rintro _ _ ⟨rfl, h⟩ _
    simp at h
    subst h
    simp
    exact .mk (by simp; decide) (by simp)
  · simp
    rfl
set_option maxRecDepth 100000 in
theorem c_markStringSS1 (xs : List (List UInt8)) (k : Nat) (hk : 0 < k) (hk2 : k + xs.length ≤ 8796093022208) : MCalls Try.prog 52 [.sl 1 1 0 1, iA k] [(1, .bx [.sl 1 2 0 xs.length]), (2, .ar 1 (xs.map sD))] fun r bs => r = iD (k + xs.length : Nat) ∧ bs = [.bx [.sl 1 2 0 xs.length], .ar 1 ((marksS k xs.length).map sD)] := by
  refine mcalls_intro Ty.mixed Try.func52 rfl rfl rfl [] (by kernel_rfl) (by simp) ?_
  simp
  refine LoopVC.at Bool (fun b => [(0, .sl 1 1 0 1), (1, iA (if b then k + xs.length else k : Nat)), (5, iA (if b then 1 else 0))]) (fun b => [(1, .bx [.sl 1 2 0 xs.length]), (2, .ar 1 ((if b then marksS k xs.length else xs).map sD))]) [] (fun b => if b then 0 else 1) false (by simp) (by simp) ?_
  rintro (_ | _)
  · simp
    refine .lend1 2 (c_markStringS xs k (by omega) (by omega)) (by simp [g1, AV.ren]) rfl rfl ?_
    rintro _ _ ⟨rfl, h⟩ _
    simp at h
    subst h
    simp
    exact .mk (by simp; decide) (by simp)
  · simp
    rfl
end Go.Fw

/- Marks in rows of rows, any number of them. -/
namespace Go.Fw
open Go Go.Proofs
set_option linter.unusedSectionVars false
set_option linter.unnecessarySimpa false

def bF : Nat := 1000000000000
theorem bF_is : bF = 1000000000000 := rfl
def rowsI (L : List (List Int)) : List (List D) := L.map fun r => r.map iD
def tot (L : List (List Int)) : Nat := (L.map List.length).sum
theorem tot_take {L : List (List Int)} {i : Nat} (h : i < L.length) : tot (L.take (i + 1)) = tot (L.take i) + L[i].length := by
  rw [List.take_succ_eq_append_getElem h]; unfold tot; rw [List.map_append, List.sum_append]; simp
theorem tot_le (L : List (List Int)) (i : Nat) : tot (L.take i) ≤ tot L := by
  have : tot L = tot (L.take i) + tot (L.drop i) := by
    unfold tot
    rw [← List.sum_append, ← List.map_append, List.take_append_drop]
  omega
/-- The rows, those before the i-th marked. -/
def mkR (k : Nat) (L : List (List Int)) (i : Nat) : List (List Int) := L.mapIdx fun j r => if j < i then marksI (k + tot (L.take j) : Nat) r.length else r
theorem mkR_len (k : Nat) (L : List (List Int)) (i : Nat) : (mkR k L i).length = L.length := by simp [mkR]
theorem mkR_get {k : Nat} {L : List (List Int)} {i j : Nat} (h : j < L.length) : (mkR k L i)[j]? = some (if j < i then marksI (k + tot (L.take j) : Nat) L[j].length else L[j]) := by
  simp [mkR, List.getElem?_mapIdx, h]
theorem mkR_zero (k : Nat) (L : List (List Int)) : mkR k L 0 = L := by
  refine List.ext_getElem? fun j => ?_
  rcases Nat.lt_or_ge j L.length with h | h
  · rw [mkR_get h, if_neg (by omega), List.getElem?_eq_getElem h]
  · rw [List.getElem?_eq_none (by rw [mkR_len]; exact h), List.getElem?_eq_none h]
theorem famC_same : ∀ {L M : List (List D)} {b : Nat}, L.map List.length = M.map List.length → famC b L = famC b M
  | [], [], _, _ => rfl
  | [], _ :: _, _, h => by simp at h
  | _ :: _, [], _, h => by simp at h
  | x :: t, y :: u, b, h => by
    simp only [List.map_cons, List.cons.injEq] at h
    rw [famC, famC, h.1, famC_same h.2]
theorem mkR_lens (k : Nat) (L : List (List Int)) (i : Nat) : (rowsI (mkR k L i)).map List.length = (rowsI L).map List.length := by
  refine List.ext_getElem? fun j => ?_
  rcases Nat.lt_or_ge j L.length with h | h
  · simp only [rowsI, List.getElem?_map, mkR_get h, List.getElem?_eq_getElem h, Option.map_some, List.length_map]
    split
    · rw [marksI_len]
    · rfl
  · rw [List.getElem?_eq_none (by simp [rowsI, mkR_len]; exact h), List.getElem?_eq_none (by simp [rowsI]; exact h)]

theorem fam_heap {f : Nat → Option Blk} : ∀ {M N : List (List D)} {b : Nat}, M.length = N.length → (∀ i r, N[i]? = some r → f (b + i) = some (.ar 1 r)) → (famH b M).map (f ∘ Prod.fst) = N.map (some ∘ Blk.ar 1)
  | [], [], _, _, _ => rfl
  | [], _ :: _, _, h, _ => by simp at h
  | _ :: _, [], _, h, _ => by simp at h
  | x :: t, y :: u, b, h, hf => by
    have h0 := hf 0 y (by simp)
    rw [Nat.add_zero] at h0
    rw [famH, List.map_cons, List.map_cons, fam_heap (M := t) (N := u) (b := b + 1) (by simpa using h) fun i r hr => by rw [show b + 1 + i = b + (i + 1) by omega]; exact hf (i + 1) r (by simpa using hr)]
    simp [h0]

set_option maxHeartbeats 800000 in
set_option maxRecDepth 100000 in
theorem c_markIntSS (L : List (List Int)) (k r : Nat) (hn : L.length ≤ 1048576) (hk2 : k + tot L ≤ 8796093022208) : MCalls Try.prog 35 [.sl 1 1 0 L.length, iA k] ((1, .bx (outY bF (rowsI L) r)) :: famH bF (rowsI L)) fun y bs => y = iD (k + tot L : Nat) ∧ bs = .bx (outY bF (rowsI L) r) :: (rowsI (mkR k L L.length)).map (.ar 1) := by
  refine mcalls_intro Ty.mixed Try.func35 rfl rfl rfl [] (by kernel_rfl) (by simp) ?_
  simp
  refine LoopVC.at { i : Nat // i ≤ L.length } (fun i => [(0, .sl 1 1 0 L.length), (1, iA (k + tot (L.take i.1) : Nat)), (5, iA i.1)]) (fun i => (1, .bx (outY bF (rowsI L) r)) :: famH bF (rowsI (mkR k L i.1))) [] (fun i => L.length - i.1) ⟨0, by omega⟩ (by simp [tot]) ?_ ?_
  · rw [mkR_zero]
    refine ⟨⟨rfl, ?_, by simp⟩, heapLe_fam _ _ fun i w hr => ⟨?_, ?_⟩⟩
    · show Blk.bx (AV.kpL _ _) = _
      rw [outY_kp]
      intro i hi
      simp [outU, bF]
    · show lookH ((1, _) :: famH bF (rowsI L)) (bF + i) = _
      rw [lookH, if_neg (by unfold bF; omega), famH_at hr]
    · exact .inl (.inr (by unfold bF; omega))
  rintro ⟨i, hi⟩
  rcases Nat.lt_or_ge i L.length with h | h
  · have hd : List.drop i (outY bF (rowsI L) r) = .sl 1 (bF + i) 0 L[i].length :: List.drop (i + 1) (outY bF (rowsI L) r) := by
      have hr : i < (rowsI L).length := by simpa [rowsI] using h
      have hl : i < (outY bF (rowsI L) r).length := by rw [outY_len]; omega
      have hg := outY_get (b := bF) (r := r) hr
      rw [List.getElem?_eq_getElem hl] at hg
      simp [rowsI] at hg
      rw [List.drop_eq_getElem_cons hl]
      congr 1
    have htt := tot_take h
    have htl := tot_le L (i + 1)
    have hrow : ∀ j, (rowsI (mkR k L j)).length = L.length := fun j => by simp [rowsI, mkR_len]
    have hcur : (rowsI (mkR k L i))[i]? = some (L[i].map iD) := by simp [rowsI, mkR_get h]
    simp [h, hd]
    refine .lend1 (bF + i) (c_markIntS L[i] (k + tot (L.take i)) (by omega) (by omega)) (by simp [g1, AV.ren]) rfl ?_ ?_
    · show lookH ((1, _) :: famH bF _) (bF + i) = _
      rw [lookH, if_neg (by unfold bF; omega), famH_at hcur]
    rintro _ _ ⟨rfl, hb⟩ _
    simp at hb
    subst hb
    simp
    refine ⟨i + 1, .mk (by simp; exact ⟨by omega, wrap64 (by omega) (by omega)⟩) ⟨⟨?_, ?_, by simp⟩, heapLe_fam _ _ fun j w hr => ⟨?_, .inl (.inr (by unfold bF; omega))⟩⟩, h, by omega⟩
    · show upd (lookH ((1, .bx (outY bF (rowsI L) r)) :: famH bF (rowsI (mkR k L i)))) (bF + i) _ 1 = _
      simp [upd, lookH, show ¬ 1 = bF + i by unfold bF; omega]
    · show Blk.bx (AV.kpL _ _) = _
      rw [outY_kp]
      intro i hi
      simp [outU, bF]
    · have hj : j < L.length := by
        have := (List.getElem?_eq_some_iff.1 hr).1
        rw [hrow] at this; exact this
      have hr' : w = (if j < i + 1 then marksI (k + tot (L.take j) : Nat) L[j].length else L[j]).map iD := by
        simp only [rowsI, List.getElem?_map, mkR_get hj, Option.map_some, Option.some.injEq] at hr
        exact hr.symm
      show upd (lookH ((1, _) :: famH bF (rowsI (mkR k L i)))) (bF + i) _ (bF + j) = _
      by_cases hji : j = i
      · subst hji
        rw [if_pos (by omega)] at hr'
        subst hr'
        simp [upd]
      · have hold : (rowsI (mkR k L i))[j]? = some w := by
          simp only [rowsI, List.getElem?_map, mkR_get hj, Option.map_some, Option.some.injEq]
          rw [hr']
          by_cases h1 : j < i
          · rw [if_pos h1, if_pos (by omega)]
          · rw [if_neg h1, if_neg (by omega)]
        simp only [upd, if_neg (show ¬ bF + j = bF + i by omega)]
        rw [lookH, if_neg (by unfold bF; omega), famH_at hold]
  · have : i = L.length := by omega
    subst this
    simp
    refine ⟨fam_heap (by simp [rowsI, mkR_len]) fun i w hr => ?_, ?_⟩
    · show lookH ((1, _) :: famH bF _) (bF + i) = _
      rw [lookH, if_neg (by unfold bF; omega), famH_at hr]
    · rw [outY_kp]
      intro i hi
      simp [keepP, bF]
end Go.Fw

/- Marks of automata: what is found of them; marks in flags. -/
namespace Go.Fw
open Go Go.Proofs
set_option linter.unusedSectionVars false
set_option linter.unnecessarySimpa false

theorem mkR_ex {k : Nat} {L : List (List Int)} {i : Nat} (h : i < L.length) : ((mkR k L L.length).map intsD)[i]? = some (intsD (marksI (k + tot (L.take i) : Nat) L[i].length)) ∧ ∀ h', ((mkR k L L.length).map intsD)[i]'h' = intsD (marksI (k + tot (L.take i) : Nat) L[i].length) := by
  have e : ((mkR k L L.length).map intsD)[i]? = some (intsD (marksI (k + tot (L.take i) : Nat) L[i].length)) := by simp [mkR_get h, h]
  exact ⟨e, fun h' => (List.getElem?_eq_some_iff.1 e).2⟩
set_option maxRecDepth 100000 in
theorem c_heldIntSS (L : List (List Int)) (k : Nat) (hn : L.length ≤ 1048576) (hk2 : k + tot L ≤ 8796093022208) : DCalls Try.prog 37 [.d (.list ((mkR k L L.length).map intsD)), iA k] fun r => r = iD (k + tot L : Nat) := by
  refine dcalls_intro Ty.mixed Try.func37 rfl rfl rfl [] (by kernel_rfl) (by simp) ?_
  have hXl : ((mkR k L L.length).map intsD).length = L.length := by simp [mkR_len]
  have hex := fun i (h : i < L.length) => mkR_ex (k := k) h
  generalize (mkR k L L.length).map intsD = X at *
  simp
  refine LoopVC.at { i : Nat // i ≤ L.length } (fun i => [(0, .d (.list X)), (1, iA (k + tot (L.take i.1) : Nat)), (5, iA i.1)]) (fun _ => []) [] (fun i => L.length - i.1) ⟨0, by omega⟩ (by simp [tot]) (by simp) ?_
  rintro ⟨i, hi⟩
  rcases Nat.lt_or_ge i L.length with h | h
  · have htt := tot_take h
    have htl := tot_le L (i + 1)
    obtain ⟨e1, e2⟩ := hex i h
    simp [h, hXl, e1, e2]
    refine .dval (c_heldIntS L[i].length (k + tot (L.take i)) (by omega) (by omega)) rfl (by simp) rfl ?_
    simp
    refine ⟨fun _ => by omega, fun _ => ⟨i + 1, .mk (by simp; exact ⟨by omega, wrap64 (by omega) (by omega)⟩) (by simp), h, by omega⟩⟩
  · have : i = L.length := by omega
    subst this
    simp [hXl]

/-! ### Flags -/
def marksB (k n : Nat) : List Bool := (List.range n).map fun i => decide ((k + i) % 3 = 0)
theorem marksB_len (k n : Nat) : (marksB k n).length = n := by simp [marksB]
theorem marksB_succ (k n : Nat) : marksB k (n + 1) = marksB k n ++ [decide ((k + n) % 3 = 0)] := by simp [marksB, List.range_succ]
theorem marksB_get (k : Nat) {n i : Nat} (h : i < n) : (marksB k n)[i]'(by rw [marksB_len]; exact h) = decide ((k + i) % 3 = 0) := by simp [marksB]
theorem tmod3 (q : Nat) : ((q : Int).tmod 3 == 0) = decide (q % 3 = 0) := by
  rw [Bool.eq_iff_iff, beq_iff_eq, decide_eq_true_eq, Int.tmod_eq_emod_of_nonneg (by omega)]
  omega

set_option maxRecDepth 100000 in
theorem c_markBoolS (xs : List Bool) (k : Nat) (hk2 : k + xs.length ≤ 8796093022208) : LCalls Try.prog 36 [.sl 1 1 0 xs.length, iA k] [(1, .ar 1 (xs.map bD))] fun r bs => r = iD (k + xs.length : Nat) ∧ bs = [.ar 1 ((marksB k xs.length).map bD)] := by
  refine lcalls_intro Ty.mixed Try.func36 rfl rfl rfl [] (by kernel_rfl) (by simp) ?_
  simp
  refine LoopVC.at { p : Nat × List Bool // p.1 ≤ xs.length ∧ p.2.length = xs.length ∧ p.2.take p.1 = marksB k p.1 } (fun p => [(0, .sl 1 1 0 xs.length), (1, iA (k + p.1.1 : Nat)), (5, iA p.1.1)]) (fun p => [(1, .ar 1 (p.1.2.map bD))]) [] (fun p => xs.length - p.1.1) ⟨(0, xs), by simp [marksB]⟩ (by simp) (by simp) ?_
  rintro ⟨⟨i, ys⟩, hi, hl, ht⟩
  simp only at hi hl ht
  rcases Nat.lt_or_ge i xs.length with h | h
  · have h3 := tmod3 (k + i)
    rw [Int.natCast_add] at h3
    simp [h, hl]
    refine ⟨i + 1, ys.set i (decide ((k + i) % 3 = 0)), .mk ?_ (by simp [List.map_set, h3]), ⟨h, by simpa using hl, ?_⟩, by omega⟩
    · simp
      exact ⟨by rw [wrap64 (by omega) (by omega)]; omega, wrap64 (by omega) (by omega)⟩
    · rw [take_set_snoc (by omega), ht, marksB_succ]
  · have : i = xs.length := by omega
    subst this
    rw [List.take_of_length_le (by omega)] at ht
    subst ht
    simp

set_option maxRecDepth 100000 in
theorem c_heldBoolS (n k : Nat) (hk2 : k + n ≤ 8796093022208) : DCalls Try.prog 38 [.d (bsD (marksB k n)), iA k] fun r => r = iD (k + n : Nat) := by
  refine dcalls_intro Ty.mixed Try.func38 rfl rfl rfl [] (by kernel_rfl) (by simp) ?_
  have hml := marksB_len k n
  simp
  refine LoopVC.at { i : Nat // i ≤ n } (fun i => [(0, .d (bsD (marksB k n))), (1, iA (k + i.1 : Nat)), (5, iA i.1)]) (fun _ => []) [] (fun i => n - i.1) ⟨0, by simp⟩ (by simp) (by simp) ?_
  rintro ⟨i, hi⟩
  rcases Nat.lt_or_ge i n with h | h
  · have hg := marksB_get k h
    have h3 := tmod3 (k + i)
    rw [Int.natCast_add] at h3
    simp [h, hml, hg, h3]
    refine ⟨i + 1, .mk ?_ (by simp), h, by omega⟩
    simp
    exact ⟨by rw [wrap64 (by omega) (by omega)]; omega, wrap64 (by omega) (by omega)⟩
  · have : i = n := by omega
    subst this
    simp [hml]

/-! ### An automaton, marked -/
def markDf (a : Df) (k : Nat) : Df := ⟨mkR k a.next a.next.length, marksB (k + tot a.next) a.ends.length⟩
set_option maxRecDepth 100000 in
theorem c_heldDfa (a : Df) (k : Nat) (hn : a.next.length ≤ 1048576) (hk2 : k + tot a.next + a.ends.length ≤ 8796093022208) : DCalls Try.prog 12 [.d (markDf a k).d, iA k] fun r => r = iD (k + tot a.next + a.ends.length : Nat) := by
  refine dcalls_intro Ty.mixed Try.func12 rfl rfl rfl [2] (by kernel_rfl) (by simp) ?_
  simp [markDf, Df.d]
  refine .dval (c_heldIntSS a.next k hn (by omega)) rfl (by simp) rfl ?_
  simp
  refine ⟨fun _ => by omega, fun _ => ?_⟩
  refine .dval (c_heldBoolS a.ends.length (k + tot a.next) (by omega)) rfl (by simp) rfl ?_
  simp
  intro _; omega
end Go.Fw

/- Marks written into an automaton. -/
namespace Go.Fw
open Go Go.Proofs
set_option linter.unusedSectionVars false
set_option linter.unnecessarySimpa false

/-- The family's numbers stay, and that of its outer slice. -/
def gF (n : Nat) (q : Nat) : Nat := if q = 1 ∨ (bF ≤ q ∧ q < bF + n) then q else 0
theorem famH_mem : ∀ {L : List (List D)} {b q : Nat} {blk : Blk}, (q, blk) ∈ famH b L → ∃ i r, q = b + i ∧ L[i]? = some r ∧ blk = .ar 1 r
  | [], _, _, _, h => by simp [famH] at h
  | r :: t, b, q, blk, h => by
    rw [famH, List.mem_cons] at h
    rcases h with h | h
    · simp only [Prod.mk.injEq] at h
      exact ⟨0, r, by omega, by simp, h.2⟩
    · obtain ⟨i, x, h1, h2, h3⟩ := famH_mem h
      exact ⟨i + 1, x, by omega, by simpa using h2, h3⟩
theorem famH_keys : ∀ (L : List (List D)) (b : Nat), (famH b L).map Prod.fst = famU b L.length
  | [], _ => rfl
  | r :: t, b => by rw [famH, List.map_cons, famH_keys t (b + 1)]; simp [famU, List.range'_succ]

theorem zip_fam : ∀ (M : List (List D)) (b n : Nat), n = M.length → (famU b n).zip (M.map (Blk.ar 1)) = famH b M
  | [], _, _, h => by subst h; rfl
  | r :: t, b, n, h => by
    subst h
    have := zip_fam t (b + 1) t.length rfl
    unfold famU at this
    simp only [famU, List.length_cons, List.range'_succ, List.map_cons, List.zip_cons_cons, this, famH]
theorem map_fam {f : Nat × Blk → Nat × Blk} : ∀ (M : List (List D)) (b : Nat), (∀ i r, i < M.length → f (b + i, .ar 1 r) = (b + i, .ar 1 r)) → (famH b M).map f = famH b M
  | [], _, _ => rfl
  | r :: t, b, h => by
    rw [famH, List.map_cons, map_fam t (b + 1) fun i x hi => by rw [show b + 1 + i = b + (i + 1) by omega]; exact h (i + 1) x (by simpa using hi)]
    have := h 0 r (by simp)
    rw [Nat.add_zero] at this
    rw [this]
theorem setAll_heap (hp : HP) (E : List (Nat × Blk)) (j : Nat) : (setAll hp E).heap j = match lookH E j with | some b => some b | none => hp.heap j := by
  rw [← setL_all]; rfl
/-- What a family that was lent holds behind the call. -/
theorem resE_fam {L M : List (List D)} {r : Nat} (h : M.length = L.length) : resE (gF L.length) 100 (1 :: famU bF L.length) (.bx (outY bF L r) :: M.map (.ar 1)) [] = (1, .bx (outY bF L r)) :: famH bF M := by
  have hg : ∀ i, i < L.length → gF L.length (bF + i) = bF + i := fun i hi => by unfold gF; rw [if_pos (by omega)]
  have hr : ∀ i, i < L.length → renOf (gF L.length) 100 [] (bF + i) = bF + i := fun i hi => by
    unfold renOf
    rw [if_pos (by unfold bF; omega), hg i hi]
  simp only [resE, List.append_nil, List.zip_cons_cons, List.map_cons, zip_fam M bF L.length h.symm]
  refine congr (congrArg List.cons ?_) (map_fam _ _ fun i w hi => ?_)
  · have h1 : renOf (gF L.length) 100 [] 1 = 1 := by simp [renOf, gF]
    have h2 : AV.kpL (outE (1 :: famU bF L.length) []) (outY bF L r) = outY bF L r := outY_kp fun i hi => by
      simp only [outE, List.map_nil, Bool.not_eq_false', List.contains_cons, famU_in]
      simp [hi]
    show (renOf (gF L.length) 100 [] 1, Blk.ren _ (.bx (AV.kpL _ (outY bF L r)))) = _
    rw [h1, h2]
    show (1, Blk.bx (AV.renL _ (outY bF L r))) = _
    rw [outY_ren hr]
  · show (renOf (gF L.length) 100 [] (bF + i), Blk.ar 1 w) = _
    rw [hr i (by omega)]

set_option maxHeartbeats 800000 in
set_option maxRecDepth 100000 in
theorem c_markDfa (a : Df) (k r : Nat) (hn : a.next.length ≤ 1048576) (hk2 : k + tot a.next + a.ends.length ≤ 8796093022208) : MCalls Try.prog 11 [.ag [.sl 1 1 0 a.next.length, .sl 1 2 0 a.ends.length], iA k] ((1, .bx (outY bF (rowsI a.next) r)) :: (2, .ar 1 (a.ends.map bD)) :: famH bF (rowsI a.next)) fun y bs => y = iD (k + tot a.next + a.ends.length : Nat) ∧ bs = .bx (outY bF (rowsI a.next) r) :: .ar 1 ((markDf a k).ends.map bD) :: (rowsI (markDf a k).next).map (.ar 1) := by
  refine mcalls_intro Ty.mixed Try.func11 rfl rfl rfl [2] (by kernel_rfl) (by simp) ?_
  simp
  refine .lendM (gF a.next.length) (c_markIntSS a.next k r hn (by omega)) (by simp [gF, AV.ren]) (fun q hq => ?_) (fun q blk hq => ?_) ?_ (fun q q' h h' e => ?_) ?_
  · rw [List.map_cons, famH_keys] at hq
    simp only [List.mem_cons, famU, List.mem_range'_1, rowsI, List.length_map, not_or] at hq
    unfold gF
    rw [if_neg (by omega)]
  · rcases List.mem_cons.1 hq with hq | hq
    · simp only [Prod.mk.injEq] at hq
      obtain ⟨rfl, rfl⟩ := hq
      refine ⟨by omega, ?_⟩
      have e : Blk.ren (gF a.next.length) (.bx (outY bF (rowsI a.next) r)) = .bx (outY bF (rowsI a.next) r) := by
        show Blk.bx (AV.renL _ _) = _
        rw [outY_ren]
        intro i hi
        unfold gF
        rw [if_pos (by simp [rowsI] at hi; omega)]
      rw [e]
      rfl
    · obtain ⟨i, w, rfl, hr, rfl⟩ := famH_mem hq
      have hi : i < a.next.length := by
        have := (List.getElem?_eq_some_iff.1 hr).1
        simpa [rowsI] using this
      refine ⟨by unfold bF; omega, ?_⟩
      have e : gF a.next.length (bF + i) = bF + i := by unfold gF; rw [if_pos (by omega)]
      rw [e]
      show lookH ((1, _) :: (2, _) :: famH bF (rowsI a.next)) (bF + i) = _
      rw [lookH, if_neg (by unfold bF; omega), lookH, if_neg (by unfold bF; omega), famH_at hr]
      rfl
  · rw [List.map_cons, famH_keys]
    simp only [List.nodup_cons, famU, List.mem_range'_1]
    exact ⟨by unfold bF; omega, List.nodup_range'⟩
  · rw [List.map_cons, famH_keys] at h h'
    simp only [List.mem_cons, famU, List.mem_range'_1, rowsI, List.length_map] at h h'
    unfold gF at e
    rw [if_pos (by omega), if_pos (by omega)] at e
    exact e
  rintro _ _ _ ⟨rfl, rfl⟩
  have hl : (rowsI a.next).length = a.next.length := by simp [rowsI]
  have hE : resE (gF a.next.length) 100 (List.map Prod.fst ((1, .bx (outY bF (rowsI a.next) r)) :: famH bF (rowsI a.next))) (.bx (outY bF (rowsI a.next) r) :: (rowsI (mkR k a.next a.next.length)).map (.ar 1)) [] = (1, .bx (outY bF (rowsI a.next) r)) :: famH bF (rowsI (mkR k a.next a.next.length)) := by
    have := resE_fam (L := rowsI a.next) (M := rowsI (mkR k a.next a.next.length)) (r := r) (by simp [rowsI, mkR_len])
    rw [hl] at this
    rw [List.map_cons, famH_keys, hl]
    exact this
  rw [hE]
  simp
  refine .lend1 2 (c_markBoolS a.ends (k + tot a.next) (by omega)) (by simp [g1, AV.ren]) rfl ?_ ?_
  · show (setAll _ _).heap 2 = _
    rw [setAll_heap, lookH, if_neg (by omega), famH_low (by unfold bF; omega)]
    rfl
  rintro _ _ ⟨rfl, hb⟩ _
  simp at hb
  subst hb
  simp
  refine ⟨⟨?_, rfl, fam_heap (by simp [rowsI, markDf, mkR_len]) fun i w hr => ?_⟩, ?_⟩
  · rw [setAll_heap]; rfl
  · show upd (setAll _ _).heap 2 _ (bF + i) = _
    simp only [upd, if_neg (show ¬ bF + i = 2 by unfold bF; omega)]
    have hr' : (rowsI (mkR k a.next a.next.length))[i]? = some w := hr
    rw [setAll_heap, lookH, if_neg (by unfold bF; omega), famH_at hr']
  · rw [outY_kp]
    intro i hi
    simp [keepP, bF]
end Go.Fw
