/- The framework, part Vrw. -/
import Derived.Test.YteenfgdemklhcaaVdf
import Derived.Test.YteenfgdemklhcaaGwx
import Derived.Test.YteenfgdemklhcaaLj
set_option linter.unusedSimpArgs false
set_option linter.unusedVariables false
/- Copies of rewriters in rows of the caller's own. -/
namespace Go.Fw
open Go Go.Proofs
set_option linter.unusedSectionVars false
set_option linter.unnecessarySimpa false

def rowsS (L : List (List (List UInt8))) : List (List D) := L.map fun r => r.map sD
theorem rowsS_len (L : List (List (List UInt8))) : (rowsS L).length = L.length := by simp [rowsS]
theorem rowsS_take {L : List (List (List UInt8))} {i : Nat} (h : i < L.length) : rowsS (L.take (i + 1)) = rowsS (L.take i) ++ [L[i].map sD] := by
  unfold rowsS; rw [List.take_succ_eq_append_getElem h, List.map_append]; rfl
theorem rowsS_list (L : List (List (List UInt8))) : D.list ((rowsS L).map .list) = .list (L.map ssD) := by
  simp [rowsS, ssD, Function.comp_def]

set_option maxRecDepth 100000 in
theorem s_toStringS (xs : List (List UInt8)) (hlen : xs.length ≤ 1048576) : SCalls Try.prog 44 [.d (ssD xs)] fun sz ys => sz = 1 ∧ ys = xs.map sD := by
  refine scalls_intro Ty.mixed Try.func44 rfl rfl rfl [] (by kernel_rfl) (by simp) ?_
  simp
  refine ⟨by omega, ?_⟩
  refine LoopVC.at { i : Nat // i ≤ xs.length } (fun i => [(0, .d (ssD xs)), (3, .sl 1 700 0 xs.length), (4, iA i.1)]) (fun i => [(700, .ar 1 (mixL (xs.map sD) (sD []) i.1))]) [700] (fun i => xs.length - i.1) ⟨0, by simp⟩ (by simp) (by simp [mixL_zero]) ?_
  rintro ⟨i, hi⟩
  rcases Nat.lt_or_ge i xs.length with h | h
  · have hl : (mixL (xs.map sD) (sD []) i).length = xs.length := by rw [mixL_len (by simpa using hi)]; simp
    simp [h, hl]
    refine ⟨i + 1, .mk (by simp; exact wrap64 (by omega) (by omega)) (by simp; rw [← mixL_set (by simpa using h)]; simp), h, by omega⟩
  · simp [Nat.not_lt.2 h]
    rw [mixL_all (by simpa using h)]
    simp
set_option maxHeartbeats 800000 in
set_option maxRecDepth 100000 in
theorem f_toStringSS (L : List (List (List UInt8))) (hlen : L.length ≤ 1048576) (hr : ∀ x ∈ L, x.length ≤ 1048576) : FCalls Try.prog 43 [.d (.list (L.map ssD))] fun x res => x = .sl 1 700 0 L.length ∧ res = famR 700 [] 1000000000 (rowsS L) 0 := by
  refine gcalls_intro Ty.mixed Try.func43 rfl rfl rfl [1007] (by kernel_rfl) (by simp) ?_
  simp
  refine ⟨by omega, ?_⟩
  refine LoopVC.atU { i : Nat // i ≤ L.length } (fun i => [(0, .d (.list (L.map ssD))), (3, .sl 1 700 0 L.length), (4, iA i.1)]) (fun i => (700, .bx (fillC 1000000000 L.length (rowsS (L.take i.1)))) :: famH 1000000000 (rowsS (L.take i.1))) (fun i => 700 :: famU 1000000000 i.1) (fun i => L.length - i.1) ⟨0, by simp⟩ (by simp) ?_ ?_
  · refine heapLe_ofam0 (by simp [rowsS]) (by simp [rowsS, fillC_zero]) (fillC_kp (by simp [rowsS])) (fun i x hx => by simp [rowsS] at hx)
  rintro ⟨i, hi⟩
  have hil : (rowsS (L.take i)).length = i := by rw [rowsS_len, List.length_take]; omega
  rcases Nat.lt_or_ge i L.length with h | h
  · have hfl := fillC_len (b := 1000000000) (n := L.length) (L := rowsS (L.take i)) (by omega)
    have hfs := fillC_set (b := 1000000000) (n := L.length) (L := rowsS (L.take i)) (x := L[i].map sD) (by omega)
    rw [hil, ← rowsS_take h] at hfs
    have hne : ∀ q : Nat, q < 1000000000 → ¬ q = 1000000000 + i := fun q h => by omega
    have hne2 : ∀ q : Nat, q < 1000000000 → ¬ 1000000000 + i = q := fun q h => by omega
    rw [List.length_map] at hfs
    simp [h]
    refine .freshS (1000000000 + i) (s_toStringS L[i] (hr _ (List.getElem_mem h))) (by omega) (by simp; omega) rfl (by simp) ?_
    rintro _ _ ⟨rfl, rfl⟩
    simp [hfl, h, hne, hne2, hfs]
    refine ⟨by omega, i + 1, .mk (by simp; exact wrap64 (by omega) (by omega)) (heapLe_ofam0 (by rw [rowsS_len, List.length_take]; omega) (by simp [hne]) (fillC_kp fun j hj => ?_) (fun j x hx => ?_)), h, by omega⟩
    · rw [rowsS_len, List.length_take] at hj
      exact outU_of0 (by omega)
    · rw [rowsS_take h] at hx
      rcases Nat.lt_or_ge j (rowsS (L.take i)).length with hj | hj
      · rw [List.getElem?_append_left hj] at hx
        simp [famH_ati hx, show ¬ j + 1000000000 = 1000000000 + i by omega]
      · rw [List.getElem?_append_right hj] at hx
        have hik : j = (rowsS (L.take i)).length := by
          have := (List.getElem?_eq_some_iff.1 hx).1
          simp at this; omega
        subst hik
        simp at hx
        subst hx
        simp [hil, Nat.add_comm i, hne2]
  · have : i = L.length := by omega
    subst this
    rw [List.take_length] at hil
    have hok : FamOk 700 [] 1000000000 (rowsS L) := ⟨by omega, by simp, by simp, by omega⟩
    simp [-retXP_is]
    refine retXP_fam (r := 0) trivial hok ⟨rfl, rfl⟩ ?_ (by simp) ?_ ?_
    · simp [fillC_all hil]
    · intro i x hx
      simp [famH_ati hx]
    · simp [hok.k0]

def rwAV (O1 O2 F : Nat) (a : Rw) : AV := .ag [.sl 1 O1 0 a.next.length, .sl 1 O2 0 a.out.length, .sl 1 F 0 a.fin.length]
def rwR (O1 O2 F b1 : Nat) (r1 b2 r2 : Nat) (a : Rw) : List (Nat × Blk) := fam2R O1 O2 [(F, .ar 1 (a.fin.map sD))] b1 (rowsI a.next) r1 b2 (rowsS a.out) r2
theorem rw_back {O1 O2 F b1 b2 r1 r2 base : Nat} {a : Rw} (hok : Fam2Ok O1 O2 [(F, .ar 1 (a.fin.map sD))] b1 (rowsI a.next) b2 (rowsS a.out)) : (rwAV O1 O2 F a).back (fun _ => 0) base [] (rwR O1 O2 F b1 r1 b2 r2 a) = rwAV base (base + 1) (base + 2) a := by
  have h1 : outE [] (rwR O1 O2 F b1 r1 b2 r2 a) O1 = false := outE_in (by simp [rwR, fam2R])
  have h2 : outE [] (rwR O1 O2 F b1 r1 b2 r2 a) O2 = false := outE_in (by simp [rwR, fam2R])
  have h3 : outE [] (rwR O1 O2 F b1 r1 b2 r2 a) F = false := outE_in (by simp [rwR, fam2R])
  have o1 := hok.o1
  have o2 := hok.o2
  have o3 := (hok.ar (F, .ar 1 (a.fin.map sD)) (by simp)).1
  have p1 : posOf O1 (rwR O1 O2 F b1 r1 b2 r2 a) = 0 := by simp [rwR, fam2R, posOf]
  have p2 : posOf O2 (rwR O1 O2 F b1 r1 b2 r2 a) = 1 := by simp [rwR, fam2R, posOf, o2.2.2.2.2]
  have p3 : posOf F (rwR O1 O2 F b1 r1 b2 r2 a) = 2 := by simp [rwR, fam2R, posOf, o3.2.2.2.2]
  simp [rwAV, AV.kp, AV.kpL, h1, h2, h3, AV.ren, AV.renL, renOf, p1, p2, p3, show ¬ (O1 < 100 ∨ 1000000000000 ≤ O1) by omega, show ¬ (O2 < 100 ∨ 1000000000000 ≤ O2) by omega, show ¬ (F < 100 ∨ 1000000000000 ≤ F) by omega]
theorem rwAV_flat {O1 O2 F : Nat} {a : Rw} : (rwAV O1 O2 F a).flatR = true := by simp [rwAV, AV.flatR, AV.flat2, AV.flat1]
theorem rowsS_flat (L : List (List (List UInt8))) : ∀ xs ∈ rowsS L, xs.all D.flat = true := fun xs h => by
  obtain ⟨x, _, rfl⟩ := List.mem_map.1 h
  simp [D.flat, D.one]
set_option maxHeartbeats 800000 in
/-- A copy of a rewriter. -/
theorem f_toRewriter (a : Rw) (h : a.small) : FCalls Try.prog 15 [.d a.d] fun x res => x = rwAV 4000000000 5000000000 600 a ∧ res = rwR 4000000000 5000000000 600 4000000001 0 5000000001 0 a := by
  refine gcalls_intro Ty.mixed Try.func15 rfl rfl rfl [1] (by kernel_rfl) (by simp) ?_
  have n1 := h.next
  have n2 := h.out
  have l1 := rowsI_len a.next
  have l2 := rowsS_len a.out
  simp [Rw.d]
  refine .freshG 4000000000 (f_toIntSS a.next h.next h.row) rfl rfl (by simp) (by omega) ?_
  rintro _ _ ⟨rfl, rfl⟩
  have hok : FamOk 700 [] 1000000000 (rowsI a.next) := ⟨by omega, by simp, by simp, by omega⟩
  refine ⟨⟨hok.nodup, hok.rng, fun j hj => ?_⟩, ?_⟩
  · rw [famR_len, rowsI_len] at hj
    simp at hj ⊢
    omega
  rw [hok.newS, sl1_back hok]
  simp
  refine .freshG 5000000000 (f_toStringSS a.out h.out fun x hx => (h.orow x hx).1) rfl rfl (by simp) (by omega) ?_
  rintro _ _ ⟨rfl, rfl⟩
  have hok2 : FamOk 700 [] 1000000000 (rowsS a.out) := ⟨by omega, by simp, by simp, by omega⟩
  refine ⟨⟨hok2.nodup, hok2.rng, fun j hj => ?_⟩, ?_⟩
  · rw [famR_len, rowsS_len] at hj
    simp at hj ⊢
    omega
  rw [hok2.newS, sl1_back hok2]
  simp
  refine .freshS 600 (s_toStringS a.fin h.fin) (by omega) (by simp) rfl (by simp) ?_
  rintro _ _ ⟨rfl, rfl⟩
  have hok3 : Fam2Ok 4000000000 5000000000 [(600, .ar 1 (a.fin.map sD))] 4000000001 (rowsI a.next) 5000000001 (rowsS a.out) := by
    refine ⟨⟨by omega, by omega, .inl (by omega), .inl (by omega)⟩, ⟨by omega, by omega, .inr (by omega), .inl (by omega), by omega⟩, fun q hq => ?_, by simp, by omega, by omega, by omega⟩
    simp only [List.mem_cons, List.not_mem_nil, or_false] at hq
    subst hq
    exact ⟨⟨by simp, by simp, .inl (by simp), .inl (by simp), by simp, by simp⟩, rfl⟩
  simp [-retXP_is]
  refine retXP_fam2 (r1 := 0) (r2 := 0) trivial hok3 ⟨rfl, rfl⟩ ?_ ?_ ?_ ?_ ?_ ?_
  · simp
  · simp
  · simp
  · intro i x hx
    have hi : i < 1048576 := by have := (List.getElem?_eq_some_iff.1 hx).1; omega
    have e : ∀ (σ : AS) (o : Blk) (bs : List Blk) (L : List (List D)), (famS σ 5000000000 o bs L).hp.heap (i + 4000000001) = σ.hp.heap (i + 4000000001) := fun σ o bs L => famS_low (by omega)
    simp [e, famS_atN hx]
  · intro i x hx
    simp [famS_atN hx]
  · have k1 := hok3.k1 (r1 := 0) (r2 := 0)
    have k2 := hok3.k2 (r1 := 0) (r2 := 0)
    have k3 := hok3.ka (r1 := 0) (r2 := 0) (q := (600, .ar 1 (a.fin.map sD))) (by simp)
    simp [k1, k2, k3]
end Go.Fw

/- Marks of rewriters. -/
namespace Go.Fw
open Go Go.Proofs
set_option linter.unusedSectionVars false
set_option linter.unnecessarySimpa false

def totS (L : List (List (List UInt8))) : Nat := (L.map List.length).sum
theorem totS_take {L : List (List (List UInt8))} {i : Nat} (h : i < L.length) : totS (L.take (i + 1)) = totS (L.take i) + L[i].length := by
  rw [List.take_succ_eq_append_getElem h]; unfold totS; rw [List.map_append, List.sum_append]; simp
theorem totS_le (L : List (List (List UInt8))) (i : Nat) : totS (L.take i) ≤ totS L := by
  have : totS L = totS (L.take i) + totS (L.drop i) := by
    unfold totS
    rw [← List.sum_append, ← List.map_append, List.take_append_drop]
  omega
/-- The rows, those before the i-th marked. -/
def mkT (k : Nat) (L : List (List (List UInt8))) (i : Nat) : List (List (List UInt8)) := L.mapIdx fun j r => if j < i then marksS (k + totS (L.take j)) r.length else r
theorem mkT_len (k : Nat) (L : List (List (List UInt8))) (i : Nat) : (mkT k L i).length = L.length := by simp [mkT]
theorem mkT_get {k : Nat} {L : List (List (List UInt8))} {i j : Nat} (h : j < L.length) : (mkT k L i)[j]? = some (if j < i then marksS (k + totS (L.take j)) L[j].length else L[j]) := by
  simp [mkT, List.getElem?_mapIdx, h]
theorem mkT_zero (k : Nat) (L : List (List (List UInt8))) : mkT k L 0 = L := by
  refine List.ext_getElem? fun j => ?_
  rcases Nat.lt_or_ge j L.length with h | h
  · rw [mkT_get h, if_neg (by omega), List.getElem?_eq_getElem h]
  · rw [List.getElem?_eq_none (by rw [mkT_len]; exact h), List.getElem?_eq_none h]
theorem mkT_lens (k : Nat) (L : List (List (List UInt8))) (i : Nat) : (rowsS (mkT k L i)).map List.length = (rowsS L).map List.length := by
  refine List.ext_getElem? fun j => ?_
  rcases Nat.lt_or_ge j L.length with h | h
  · simp only [rowsS, List.getElem?_map, mkT_get h, List.getElem?_eq_getElem h, Option.map_some, List.length_map]
    split
    · rw [marksS_len]
    · rfl
  · rw [List.getElem?_eq_none (by simp [rowsS, mkT_len]; exact h), List.getElem?_eq_none (by simp [rowsS]; exact h)]

set_option maxHeartbeats 800000 in
set_option maxRecDepth 100000 in
theorem c_markStringSS (L : List (List (List UInt8))) (k r : Nat) (hk : 0 < k) (hn : L.length ≤ 1048576) (hk2 : k + totS L ≤ 8796093022208) : MCalls Try.prog 52 [.sl 1 1 0 L.length, iA k] ((1, .bx (outY bF (rowsS L) r)) :: famH bF (rowsS L)) fun y bs => y = iD (k + totS L : Nat) ∧ bs = .bx (outY bF (rowsS L) r) :: (rowsS (mkT k L L.length)).map (.ar 1) := by
  refine mcalls_intro Ty.mixed Try.func52 rfl rfl rfl [] (by kernel_rfl) (by simp) ?_
  simp
  refine LoopVC.at { i : Nat // i ≤ L.length } (fun i => [(0, .sl 1 1 0 L.length), (1, iA (k + totS (L.take i.1) : Nat)), (5, iA i.1)]) (fun i => (1, .bx (outY bF (rowsS L) r)) :: famH bF (rowsS (mkT k L i.1))) [] (fun i => L.length - i.1) ⟨0, by omega⟩ (by simp [totS]) ?_ ?_
  · rw [mkT_zero]
    refine ⟨⟨rfl, ?_, by simp⟩, heapLe_fam _ _ fun i w hr => ⟨?_, ?_⟩⟩
    · show Blk.bx (AV.kpL _ _) = _
      rw [outY_kp]
      intro i hi
      simp [outU, bF]
    · show lookH ((1, _) :: famH bF (rowsS L)) (bF + i) = _
      rw [lookH, if_neg (by unfold bF; omega), famH_at hr]
    · exact .inl (.inr (by unfold bF; omega))
  rintro ⟨i, hi⟩
  rcases Nat.lt_or_ge i L.length with h | h
  · have hd : List.drop i (outY bF (rowsS L) r) = .sl 1 (bF + i) 0 L[i].length :: List.drop (i + 1) (outY bF (rowsS L) r) := by
      have hr : i < (rowsS L).length := by simpa [rowsS] using h
      have hl : i < (outY bF (rowsS L) r).length := by rw [outY_len]; omega
      have hg := outY_get (b := bF) (r := r) hr
      rw [List.getElem?_eq_getElem hl] at hg
      simp [rowsS] at hg
      rw [List.drop_eq_getElem_cons hl]
      congr 1
    have htt := totS_take h
    have htl := totS_le L (i + 1)
    have hrow : ∀ j, (rowsS (mkT k L j)).length = L.length := fun j => by simp [rowsS, mkT_len]
    have hcur : (rowsS (mkT k L i))[i]? = some (L[i].map sD) := by simp [rowsS, mkT_get h]
    simp [h, hd]
    refine .lend1 (bF + i) (c_markStringS L[i] (k + totS (L.take i)) (by omega) (by omega)) (by simp [g1, AV.ren]) rfl ?_ ?_
    · show lookH ((1, _) :: famH bF _) (bF + i) = _
      rw [lookH, if_neg (by unfold bF; omega), famH_at hcur]
    rintro _ _ ⟨rfl, hb⟩ _
    simp at hb
    subst hb
    simp
    refine ⟨i + 1, .mk (by simp; exact ⟨by omega, wrap64 (by omega) (by omega)⟩) ⟨⟨?_, ?_, by simp⟩, heapLe_fam _ _ fun j w hr => ⟨?_, .inl (.inr (by unfold bF; omega))⟩⟩, h, by omega⟩
    · show upd (lookH ((1, .bx (outY bF (rowsS L) r)) :: famH bF (rowsS (mkT k L i)))) (bF + i) _ 1 = _
      simp [upd, lookH, show ¬ 1 = bF + i by unfold bF; omega]
    · show Blk.bx (AV.kpL _ _) = _
      rw [outY_kp]
      intro i hi
      simp [outU, bF]
    · have hj : j < L.length := by
        have := (List.getElem?_eq_some_iff.1 hr).1
        rw [hrow] at this; exact this
      have hr' : w = (if j < i + 1 then marksS (k + totS (L.take j)) L[j].length else L[j]).map sD := by
        simp only [rowsS, List.getElem?_map, mkT_get hj, Option.map_some, Option.some.injEq] at hr
        exact hr.symm
      show upd (lookH ((1, _) :: famH bF (rowsS (mkT k L i)))) (bF + i) _ (bF + j) = _
      by_cases hji : j = i
      · subst hji
        rw [if_pos (by omega)] at hr'
        subst hr'
        simp [upd]
      · have hold : (rowsS (mkT k L i))[j]? = some w := by
          simp only [rowsS, List.getElem?_map, mkT_get hj, Option.map_some, Option.some.injEq]
          rw [hr']
          by_cases h1 : j < i
          · rw [if_pos h1, if_pos (by omega)]
          · rw [if_neg h1, if_neg (by omega)]
        simp only [upd, if_neg (show ¬ bF + j = bF + i by omega)]
        rw [lookH, if_neg (by unfold bF; omega), famH_at hold]
  · have : i = L.length := by omega
    subst this
    simp
    refine ⟨fam_heap (by simp [rowsS, mkT_len]) fun i w hr => ?_, ?_⟩
    · show lookH ((1, _) :: famH bF _) (bF + i) = _
      rw [lookH, if_neg (by unfold bF; omega), famH_at hr]
    · rw [outY_kp]
      intro i hi
      simp [keepP, bF]
set_option maxRecDepth 100000 in
theorem h_heldStringS (n k : Nat) (hk : 0 < k) (hk2 : k + n ≤ 8796093022208) : DCalls Try.prog 55 [.d (ssD (marksS k n)), iA k] fun r => r = iD (k + n : Nat) := by
  refine dcalls_intro Ty.mixed Try.func55 rfl rfl rfl [] (by kernel_rfl) (by simp) ?_
  have hml := marksS_len k n
  simp
  refine LoopVC.at { i : Nat // i ≤ n } (fun i => [(0, .d (ssD (marksS k n))), (1, iA (k + i.1 : Nat)), (5, iA i.1)]) (fun _ => []) [] (fun i => n - i.1) ⟨0, by simp⟩ (by simp) (by simp) ?_
  rintro ⟨i, hi⟩
  rcases Nat.lt_or_ge i n with h | h
  · have hg := marksS_get k h
    simp [h, hml]
    refine .one (sch [.pur 0, .pur 1, .pur 2, .pur 3, .pur 4, .eff 5 [0, 1, 2, 3], .pur 6]) (by kernel_rfl) ?_
    simp [h, hml, hg]
    refine .dval (c_markText (k + i) (by omega) (by omega)) rfl (by simp) rfl ?_
    simp [h, hml, hg]
    refine ⟨i + 1, .mk ?_ (by simp), h, by omega⟩
    simp
    exact ⟨by rw [wrap64 (by omega) (by omega)]; omega, wrap64 (by omega) (by omega)⟩
  · have : i = n := by omega
    subst this
    simp [hml]

theorem mkT_ex {k : Nat} {L : List (List (List UInt8))} {i : Nat} (h : i < L.length) : ((mkT k L L.length).map ssD)[i]? = some (ssD (marksS (k + totS (L.take i)) L[i].length)) ∧ ∀ h', ((mkT k L L.length).map ssD)[i]'h' = ssD (marksS (k + totS (L.take i)) L[i].length) := by
  have e : ((mkT k L L.length).map ssD)[i]? = some (ssD (marksS (k + totS (L.take i)) L[i].length)) := by simp [mkT_get h, h]
  exact ⟨e, fun h' => (List.getElem?_eq_some_iff.1 e).2⟩
set_option maxRecDepth 100000 in
theorem c_heldStringSS (L : List (List (List UInt8))) (k : Nat) (hk : 0 < k) (hn : L.length ≤ 1048576) (hk2 : k + totS L ≤ 8796093022208) : DCalls Try.prog 54 [.d (.list ((mkT k L L.length).map ssD)), iA k] fun r => r = iD (k + totS L : Nat) := by
  refine dcalls_intro Ty.mixed Try.func54 rfl rfl rfl [] (by kernel_rfl) (by simp) ?_
  have hXl : ((mkT k L L.length).map ssD).length = L.length := by simp [mkT_len]
  have hex := fun i (h : i < L.length) => mkT_ex (k := k) h
  generalize (mkT k L L.length).map ssD = X at *
  simp
  refine LoopVC.at { i : Nat // i ≤ L.length } (fun i => [(0, .d (.list X)), (1, iA (k + totS (L.take i.1) : Nat)), (5, iA i.1)]) (fun _ => []) [] (fun i => L.length - i.1) ⟨0, by omega⟩ (by simp [totS]) (by simp) ?_
  rintro ⟨i, hi⟩
  rcases Nat.lt_or_ge i L.length with h | h
  · have htt := totS_take h
    have htl := totS_le L (i + 1)
    obtain ⟨e1, e2⟩ := hex i h
    simp [h, hXl, e1, e2]
    refine .dval (h_heldStringS L[i].length (k + totS (L.take i)) (by omega) (by omega)) rfl (by simp) rfl ?_
    simp
    refine ⟨fun _ => by omega, fun _ => ⟨i + 1, .mk (by simp; exact ⟨by omega, wrap64 (by omega) (by omega)⟩) (by simp), h, by omega⟩⟩
  · have : i = L.length := by omega
    subst this
    simp [hXl]


/-- A rewriter, marked. -/
def markRw (a : Rw) (k : Nat) : Rw := ⟨mkR k a.next a.next.length, mkT (k + tot a.next) a.out a.out.length, marksS (k + tot a.next + totS a.out) a.fin.length⟩
def Rw.tot (a : Rw) : Nat := Go.Fw.tot a.next + totS a.out + a.fin.length
set_option maxRecDepth 100000 in
theorem h_heldRewriter (a : Rw) (k : Nat) (hk : 0 < k) (hn : a.next.length ≤ 1048576) (hn2 : a.out.length ≤ 1048576) (hk2 : k + a.tot ≤ 8796093022208) : DCalls Try.prog 19 [.d (markRw a k).d, iA k] fun r => r = iD (k + a.tot : Nat) := by
  unfold Rw.tot at *
  refine dcalls_intro Ty.mixed Try.func19 rfl rfl rfl [2] (by kernel_rfl) (by simp) ?_
  simp [markRw, Rw.d]
  refine .dval (c_heldIntSS a.next k hn (by omega)) rfl (by simp) rfl ?_
  simp
  refine ⟨fun _ => by omega, fun _ => ?_⟩
  refine .dval (c_heldStringSS a.out (k + tot a.next) (by omega) hn2 (by omega)) rfl (by simp) rfl ?_
  simp
  refine ⟨fun _ => by omega, fun _ => ?_⟩
  refine .dval (h_heldStringS a.fin.length (k + tot a.next + totS a.out) (by omega) (by omega)) rfl (by simp) rfl ?_
  simp
  exact ⟨fun _ => by omega, fun _ => by omega⟩
end Go.Fw

/- Marks written into rewriters. -/
namespace Go.Fw
open Go Go.Proofs
set_option linter.unusedSectionVars false
set_option linter.unnecessarySimpa false

def gS (O b n : Nat) (q : Nat) : Nat := if q = 1 then O else if bF ≤ q ∧ q < bF + n then q - bF + b else 0
section
variable {P : Program} {σ : AS} {hp : HP} {O b r : Nat} {L M : List (List D)}
theorem CallVC.lendSS {f : FuncId} {n : Nat} {z v : D} {K : AV → AS → Prop} (hn : n = L.length) (hc : MCalls P f [.sl 1 1 0 n, .d z] ((1, .bx (outY bF L r)) :: famH bF L) fun y bs => y = v ∧ bs = .bx (outY bF L r) :: M.map (.ar 1)) (hl : M.length = L.length) (hO : 0 < O ∧ OutF b L.length O ∧ 0 < b)
    (h0 : σ.hp.heap O = some (.bx (outY b L r))) (hf : ∀ i x, L[i]? = some x → σ.hp.heap (i + b) = some (.ar 1 x)) (hk : K (.d v) (σ.withHp (setAll σ.hp ((O, .bx (outY b L r)) :: famH b M)))) : CallVC P f [.sl 1 O 0 n, .d z] σ K := by
  subst hn
  have hgF : ∀ i, i < L.length → gS O b L.length (bF + i) = b + i := fun i hi => by
    unfold gS
    rw [if_neg (by unfold bF; omega), if_pos (by omega)]; omega
  have hg1 : gS O b L.length 1 = O := by simp [gS]
  have hkeys : ∀ q, q ∈ (((1, Blk.bx (outY bF L r)) :: famH bF L).map Prod.fst) ↔ q = 1 ∨ (bF ≤ q ∧ q < bF + L.length) := fun q => by
    rw [List.map_cons, List.mem_cons, famH_key]
  have hO' := hO.2.1
  unfold OutF at hO'
  refine .lendM (gS O b L.length) hc (by simp [AV.ren, hg1]) (fun q hq => ?_) (fun q blk hq => ?_) ?_ (fun q q' h1 h2 e => ?_) ?_
  · rw [hkeys] at hq
    unfold gS
    rw [if_neg (by omega), if_neg (by omega)]
  · rw [List.mem_cons] at hq
    rcases hq with hq | hq
    · simp only [Prod.mk.injEq] at hq
      obtain ⟨rfl, rfl⟩ := hq
      refine ⟨by omega, ?_⟩
      rw [hg1, h0]
      show _ = some (Blk.bx (AV.renL _ _))
      rw [outY_ren hgF]
    · obtain ⟨i, w, rfl, hw, rfl⟩ := famH_mem hq
      have hi : i < L.length := (List.getElem?_eq_some_iff.1 hw).1
      refine ⟨by unfold bF; omega, ?_⟩
      rw [hgF i hi, Nat.add_comm, hf i w hw]; rfl
  · rw [List.map_cons, List.nodup_cons, famH_key]
    exact ⟨by unfold bF; omega, famH_nodup _ _⟩
  · rw [hkeys] at h1 h2
    have hcs : ∀ q, (q = 1 ∨ (bF ≤ q ∧ q < bF + L.length)) → (q = 1 ∧ gS O b L.length q = O) ∨ (bF ≤ q ∧ q < bF + L.length ∧ gS O b L.length q = q - bF + b) := fun q hq => by
      rcases hq with rfl | hq
      · exact .inl ⟨rfl, hg1⟩
      · have := hgF (q - bF) (by omega)
        rw [show bF + (q - bF) = q by omega] at this
        exact .inr ⟨hq.1, hq.2, by omega⟩
    rcases hcs q h1 with h3 | h3 <;> rcases hcs q' h2 with h4 | h4 <;> omega
  rintro _ _ _ ⟨rfl, rfl⟩
  have hE : resE (gS O b L.length) 100 (List.map Prod.fst ((1, Blk.bx (outY bF L r)) :: famH bF L)) (.bx (outY bF L r) :: M.map (.ar 1)) [] = (O, .bx (outY b L r)) :: famH b M := by
    have hrn : ∀ q, (q < 100 ∨ bF ≤ q) → renOf (gS O b L.length) 100 [] q = gS O b L.length q := fun q hq => by unfold renOf; rw [if_pos (by unfold bF at hq; omega)]
    have hz : (famU bF L.length).zip (M.map (Blk.ar 1)) = famH bF M := zip_fam _ _ _ hl.symm
    simp only [resE, List.append_nil, List.map_cons, famH_keys, List.zip_cons_cons, hz]
    rw [hrn 1 (by omega), hg1]
    congr 1
    · show (O, Blk.bx (AV.renL _ (AV.kpL _ (outY bF L r)))) = _
      rw [outY_kp fun i hi => ?_, outY_ren fun i hi => ?_]
      · rw [hrn (bF + i) (by omega), hgF i (by omega)]
      · simp only [outE, List.map_nil, Bool.not_eq_false', List.contains_cons, famU_in]
        simp [hi]
    · refine map_famR _ _ fun i w hi => ?_
      show (renOf _ 100 [] (bF + i), Blk.ar 1 w) = _
      rw [hrn (bF + i) (by omega), hgF i (by omega)]
  rw [hE]
  exact hk
theorem setSS_off {j : Nat} {x : Blk} (h : j ≠ O ∧ OutF b M.length j) : (setAll hp ((O, x) :: famH b M)).heap j = hp.heap j := by
  have h2 := h.2
  unfold OutF at h2
  have e : lookH (famH b M) j = none := by
    rw [famH_look]
    by_cases hb : b ≤ j
    · rw [if_pos hb, List.getElem?_eq_none (by omega)]; rfl
    · rw [if_neg hb]
  rw [setAll_heap, lookH, if_neg h.1, e]
theorem setSS_o {x : Blk} : (setAll hp ((O, x) :: famH b M)).heap O = some x := by
  rw [setAll_heap, lookH, if_pos rfl]
theorem setSS_at {i : Nat} {x : Blk} {w : List D} (h : M[i]? = some w) (hO : OutF b M.length O) : (setAll hp ((O, x) :: famH b M)).heap (i + b) = some (.ar 1 w) := by
  have := (List.getElem?_eq_some_iff.1 h).1
  unfold OutF at hO
  rw [setAll_heap, lookH, if_neg (by omega), famH_ati h]
end

def bG : Nat := 2000000000000
theorem markRw_next (a : Rw) (k : Nat) : (rowsI (markRw a k).next).length = a.next.length := by simp [rowsI, markRw, mkR_len]
theorem markRw_out (a : Rw) (k : Nat) : (rowsS (markRw a k).out).length = a.out.length := by simp [rowsS, markRw, mkT_len]
theorem markRw_fin (a : Rw) (k : Nat) : (markRw a k).fin.length = a.fin.length := by simp [markRw, marksS_len]
set_option maxHeartbeats 1000000 in
set_option maxRecDepth 100000 in
theorem c_markRewriter (a : Rw) (k r1 r2 : Nat) (hk : 0 < k) (hn : a.next.length ≤ 1048576) (hn2 : a.out.length ≤ 1048576) (hk2 : k + a.tot ≤ 8796093022208) : MCalls Try.prog 18 [.ag [.sl 1 1 0 a.next.length, .sl 1 2 0 a.out.length, .sl 1 3 0 a.fin.length], iA k]
    ((1, .bx (outY bF (rowsI a.next) r1)) :: (2, .bx (outY bG (rowsS a.out) r2)) :: (3, .ar 1 (a.fin.map sD)) :: (famH bF (rowsI a.next) ++ famH bG (rowsS a.out))) fun y bs => y = iD (k + a.tot : Nat) ∧ bs = .bx (outY bF (rowsI a.next) r1) :: .bx (outY bG (rowsS a.out) r2) :: .ar 1 ((markRw a k).fin.map sD) :: ((rowsI (markRw a k).next).map (.ar 1) ++ (rowsS (markRw a k).out).map (.ar 1)) := by
  unfold Rw.tot at *
  have l1 := rowsI_len a.next
  have l2 := rowsS_len a.out
  have m1 := markRw_next a k
  have m2 := markRw_out a k
  have hi := c_markIntSS a.next k r1 hn (by omega)
  have hs := c_markStringSS a.out (k + tot a.next) r2 (by omega) hn2 (by omega)
  refine mcalls_intro Ty.mixed Try.func18 rfl rfl rfl [2] (by kernel_rfl) (by simp) ?_
  simp
  refine .lendSS l1.symm (O := 1) (b := bF) (M := rowsI (markRw a k).next) hi (by omega) ⟨by omega, .inl (by unfold bF; omega), by unfold bF; omega⟩ rfl ?_ ?_
  · intro i x hx
    show lookH ((1, Blk.bx (outY bF (rowsI a.next) r1)) :: (2, Blk.bx (outY bG (rowsS a.out) r2)) :: (3, Blk.ar 1 (a.fin.map sD)) :: (famH bF (rowsI a.next) ++ famH bG (rowsS a.out))) (i + bF) = _
    rw [lookH, if_neg (by unfold bF; omega), lookH, if_neg (by unfold bF; omega), lookH, if_neg (by unfold bF; omega), famH_app_at hx]
  have hout1 : ∀ (j : Nat) (hp : HP) (x : Blk), j ≠ 1 → j < bF ∨ bG ≤ j → (setAll hp ((1, x) :: famH bF (rowsI (markRw a k).next))).heap j = hp.heap j := fun j hp x h1 h2 => setSS_off ⟨h1, by unfold OutF; unfold bG bF at *; omega⟩
  simp
  refine .lendSS l2.symm (O := 2) (b := bG) (M := rowsS (markRw a k).out) hs (by omega) ⟨by omega, .inl (by unfold bG; omega), by unfold bG; omega⟩ ?_ ?_ ?_
  · show (setAll _ _).heap 2 = _
    rw [hout1 2 _ _ (by omega) (by unfold bF; omega)]; rfl
  · intro i x hx
    show (setAll _ _).heap (i + bG) = _
    rw [hout1 (i + bG) _ _ (by unfold bG; omega) (by omega)]
    show lookH ((1, Blk.bx (outY bF (rowsI a.next) r1)) :: (2, Blk.bx (outY bG (rowsS a.out) r2)) :: (3, Blk.ar 1 (a.fin.map sD)) :: (famH bF (rowsI a.next) ++ famH bG (rowsS a.out))) (i + bG) = _
    rw [lookH, if_neg (by unfold bG; omega), lookH, if_neg (by unfold bG; omega), lookH, if_neg (by unfold bG; omega), lookH_app]
    have e : lookH (famH bF (rowsI a.next)) (i + bG) = none := by
      rw [famH_look, if_pos (by unfold bF bG; omega), List.getElem?_eq_none (by unfold bF bG; omega)]; rfl
    rw [e, famH_ati hx]
  have hout2 : ∀ (j : Nat) (hp : HP) (x : Blk), j ≠ 2 → j < bG → (setAll hp ((2, x) :: famH bG (rowsS (markRw a k).out))).heap j = hp.heap j := fun j hp x h1 h2 => setSS_off ⟨h1, .inl h2⟩
  simp
  refine .lend1 3 (c_markStringS a.fin (k + tot a.next + totS a.out) (by omega) (by omega)) (by simp [g1, AV.ren]) rfl ?_ ?_
  · show (setAll _ _).heap 3 = _
    rw [hout2 3 _ _ (by omega) (by unfold bG; omega)]
    show (setAll _ _).heap 3 = _
    rw [hout1 3 _ _ (by omega) (by unfold bF; omega)]; rfl
  rintro _ _ ⟨rfl, hb⟩ _
  simp at hb
  subst hb
  have f1 : (setAll (setAll (hpOf ((1, Blk.bx (outY bF (rowsI a.next) r1)) :: (2, Blk.bx (outY bG (rowsS a.out) r2)) :: (3, Blk.ar 1 (a.fin.map sD)) :: (famH bF (rowsI a.next) ++ famH bG (rowsS a.out)))) ((1, .bx (outY bF (rowsI a.next) r1)) :: famH bF (rowsI (markRw a k).next))) ((2, .bx (outY bG (rowsS a.out) r2)) :: famH bG (rowsS (markRw a k).out))).heap 1 = some (.bx (outY bF (rowsI a.next) r1)) := by
    rw [hout2 1 _ _ (by omega) (by unfold bG; omega), setSS_o]
  have f2 : (setAll (setAll (hpOf ((1, Blk.bx (outY bF (rowsI a.next) r1)) :: (2, Blk.bx (outY bG (rowsS a.out) r2)) :: (3, Blk.ar 1 (a.fin.map sD)) :: (famH bF (rowsI a.next) ++ famH bG (rowsS a.out)))) ((1, .bx (outY bF (rowsI a.next) r1)) :: famH bF (rowsI (markRw a k).next))) ((2, .bx (outY bG (rowsS a.out) r2)) :: famH bG (rowsS (markRw a k).out))).heap 2 = some (.bx (outY bG (rowsS a.out) r2)) := setSS_o
  have f3 : ∀ i x, (rowsI (markRw a k).next)[i]? = some x → (setAll (setAll (hpOf ((1, Blk.bx (outY bF (rowsI a.next) r1)) :: (2, Blk.bx (outY bG (rowsS a.out) r2)) :: (3, Blk.ar 1 (a.fin.map sD)) :: (famH bF (rowsI a.next) ++ famH bG (rowsS a.out)))) ((1, .bx (outY bF (rowsI a.next) r1)) :: famH bF (rowsI (markRw a k).next))) ((2, .bx (outY bG (rowsS a.out) r2)) :: famH bG (rowsS (markRw a k).out))).heap (bF + i) = some (.ar 1 x) := fun i x hx => by
    have := (List.getElem?_eq_some_iff.1 hx).1
    rw [hout2 (bF + i) _ _ (by unfold bF; omega) (by unfold bF bG; omega), Nat.add_comm, setSS_at hx (.inl (by unfold bF; omega))]
  have f4 : ∀ i x, (rowsS (markRw a k).out)[i]? = some x → (setAll (setAll (hpOf ((1, Blk.bx (outY bF (rowsI a.next) r1)) :: (2, Blk.bx (outY bG (rowsS a.out) r2)) :: (3, Blk.ar 1 (a.fin.map sD)) :: (famH bF (rowsI a.next) ++ famH bG (rowsS a.out)))) ((1, .bx (outY bF (rowsI a.next) r1)) :: famH bF (rowsI (markRw a k).next))) ((2, .bx (outY bG (rowsS a.out) r2)) :: famH bG (rowsS (markRw a k).out))).heap (bG + i) = some (.ar 1 x) := fun i x hx => by
    rw [Nat.add_comm, setSS_at hx (.inl (by unfold bG; omega))]
  simp
  generalize setAll (setAll (hpOf ((1, Blk.bx (outY bF (rowsI a.next) r1)) :: (2, Blk.bx (outY bG (rowsS a.out) r2)) :: (3, Blk.ar 1 (a.fin.map sD)) :: (famH bF (rowsI a.next) ++ famH bG (rowsS a.out)))) ((1, .bx (outY bF (rowsI a.next) r1)) :: famH bF (rowsI (markRw a k).next))) ((2, .bx (outY bG (rowsS a.out) r2)) :: famH bG (rowsS (markRw a k).out)) = H at *
  have F1 := fam_heap (f := (H.set 3 (.ar 1 ((marksS (k + tot a.next + totS a.out) a.fin.length).map sD))).heap) (M := rowsI a.next) (N := rowsI (markRw a k).next) (b := bF) (by omega) fun i x hx => by
    simp only [set_heap, if_neg (show ¬ bF + i = 3 by unfold bF; omega)]
    exact f3 i x hx
  have F2 := fam_heap (f := (H.set 3 (.ar 1 ((marksS (k + tot a.next + totS a.out) a.fin.length).map sD))).heap) (M := rowsS a.out) (N := rowsS (markRw a k).out) (b := bG) (by omega) fun i x hx => by
    simp only [set_heap, if_neg (show ¬ bG + i = 3 by unfold bG; omega)]
    exact f4 i x hx
  refine ⟨_, ⟨by omega, rfl⟩, ?_, ?_⟩
  · rw [f1, f2, F1, F2]
    simp [markRw, Function.comp_def]
  · intro b hb
    simp only [List.mem_cons, List.mem_append, List.mem_map] at hb
    rcases hb with rfl | rfl | rfl | ⟨x, _, rfl⟩ | ⟨x, _, rfl⟩
    · show Blk.bx (AV.kpL _ _) = _
      rw [outY_kp]
      intro i hi
      simp [keepP, bF]
    · show Blk.bx (AV.kpL _ _) = _
      rw [outY_kp]
      intro i hi
      unfold keepP
      rw [decide_eq_true (by unfold bG; omega)]; rfl
    · rfl
    · rfl
    · rfl
end Go.Fw

/- Live rewriters as data, and lent to be marked. -/
namespace Go.Fw
open Go Go.Proofs
set_option linter.unusedSectionVars false
set_option linter.unnecessarySimpa false

/-- A rewriter lies there. -/
structure RwAt (hp : HP) (O1 O2 F b1 b2 : Nat) (a : Rw) (r1 r2 : Nat) : Prop where
  o1 : hp.heap O1 = some (.bx (outY b1 (rowsI a.next) r1))
  o2 : hp.heap O2 = some (.bx (outY b2 (rowsS a.out) r2))
  f : hp.heap F = some (.ar 1 (a.fin.map sD))
  f1 : ∀ i x, (rowsI a.next)[i]? = some x → hp.heap (i + b1) = some (.ar 1 x)
  f2 : ∀ i x, (rowsS a.out)[i]? = some x → hp.heap (i + b2) = some (.ar 1 x)
structure RwNum (O1 O2 F b1 b2 : Nat) (n m : Nat) : Prop where
  o1 : 0 < O1 ∧ OutF b1 n O1 ∧ OutF b2 m O1
  o2 : 0 < O2 ∧ OutF b1 n O2 ∧ OutF b2 m O2 ∧ O2 ≠ O1
  f : 0 < F ∧ OutF b1 n F ∧ OutF b2 m F ∧ F ≠ O1 ∧ F ≠ O2
  b : 0 < b1 ∧ 0 < b2
  dj : b1 + n ≤ b2 ∨ b2 + m ≤ b1
section
variable {P : Program} {σ : AS} {hp : HP} {O1 O2 F b1 b2 r1 r2 : Nat} {a : Rw}
theorem RwAt.data (h : RwAt hp O1 O2 F b1 b2 a r1 r2) : ∃ p l, toD hp (rwAV O1 O2 F a) = some (p, a.d, l) ∧ p := by
  obtain ⟨p, l, h1, h2⟩ := toD1_fam (cs := List.replicate r1 .unk) h.o1 fun i x hx => by rw [Nat.add_comm]; exact h.f1 i x hx
  obtain ⟨p', l', h1', h2'⟩ := toD1_fam (cs := List.replicate r2 .unk) h.o2 fun i x hx => by rw [Nat.add_comm]; exact h.f2 i x hx
  rw [rowsI_len] at h1
  rw [rowsS_len] at h1'
  refine ⟨p ∧ p' ∧ (1 = 1 ∧ 0 + a.fin.length ≤ (a.fin.map sD).length) ∧ True, l ++ (l' ++ ([F] ++ [])), ?_, h2, h2', ⟨rfl, by simp⟩, trivial⟩
  have hE : toD1 hp (.sl 1 F 0 a.fin.length) = some (1 = 1 ∧ 0 + a.fin.length ≤ (a.fin.map sD).length, .list (((a.fin.map sD).drop 0).take a.fin.length), [F]) := by simp only [toD1, h.f]
  show (toDs hp [_, _, _]).map _ = _
  simp only [toDs, h1, h1', hE, Option.map_some]
  rw [rowsI_list, rowsS_list, List.drop_zero, List.take_of_length_le (by simp)]
  rfl
theorem RwAt.viewA (h : RwAt σ.hp O1 O2 F b1 b2 a r1 r2) : ∃ p l, viewA P σ.hp (rwAV O1 O2 F a) = some (p, .d a.d, l) ∧ p := by
  obtain ⟨p, l, h1, h2⟩ := h.data
  refine ⟨p, l, ?_, h2⟩
  show (toD σ.hp (rwAV O1 O2 F a)).map _ = _
  rw [h1]; rfl
theorem RwAt.view (h : RwAt σ.hp O1 O2 F b1 b2 a r1 r2) {zs ys : List AV} (hv : ∃ q l, viewL P σ.hp zs = some (q, ys, l) ∧ q) : ∃ p l', viewL P σ.hp (rwAV O1 O2 F a :: zs) = some (p, .d a.d :: ys, l') ∧ p := by
  obtain ⟨p, l', h1, h2⟩ := h.viewA (P := P)
  obtain ⟨q, l, hv, hq⟩ := hv
  refine ⟨p ∧ q, l' ++ l, ?_, h2, hq⟩
  simp only [viewL, h1, hv]
theorem rwAV_mark (k : Nat) : rwAV O1 O2 F (markRw a k) = rwAV O1 O2 F a := by
  simp [rwAV, markRw, mkR_len, mkT_len, marksS_len]
theorem RwAt.viewM {k : Nat} (h : RwAt σ.hp O1 O2 F b1 b2 (markRw a k) r1 r2) {zs ys : List AV} (hv : ∃ q l, viewL P σ.hp zs = some (q, ys, l) ∧ q) : ∃ p l', viewL P σ.hp (rwAV O1 O2 F a :: zs) = some (p, .d (markRw a k).d :: ys, l') ∧ p := by
  rw [← rwAV_mark k]; exact h.view hv

def gW (O1 O2 F b1 n b2 m : Nat) (q : Nat) : Nat := if q = 1 then O1 else if q = 2 then O2 else if q = 3 then F else if bF ≤ q ∧ q < bF + n then q - bF + b1 else if bG ≤ q ∧ q < bG + m then q - bG + b2 else 0
theorem outY_mark1 {k : Nat} : outY b1 (rowsI (markRw a k).next) r1 = outY b1 (rowsI a.next) r1 := by
  rw [outY, outY, famC_same (L := rowsI (markRw a k).next) (M := rowsI a.next) (mkR_lens k a.next a.next.length)]
theorem outY_mark2 {k : Nat} : outY b2 (rowsS (markRw a k).out) r2 = outY b2 (rowsS a.out) r2 := by
  rw [outY, outY, famC_same (L := rowsS (markRw a k).out) (M := rowsS a.out) (mkT_lens (k + tot a.next) a.out a.out.length)]
/-- What is there behind the marks. -/
def setRw (hp : HP) (O1 O2 F b1 b2 : Nat) (a : Rw) (k r1 r2 : Nat) : HP := setAll hp ((O1, .bx (outY b1 (rowsI a.next) r1)) :: (O2, .bx (outY b2 (rowsS a.out) r2)) :: (F, .ar 1 ((markRw a k).fin.map sD)) :: (famH b1 (rowsI (markRw a k).next) ++ famH b2 (rowsS (markRw a k).out)))
set_option maxHeartbeats 1000000 in
theorem CallVC.lendRw {k : Nat} {K : AV → AS → Prop} (hk0 : 0 < k) (hn : a.next.length ≤ 1048576) (hn2 : a.out.length ≤ 1048576) (hk2 : k + a.tot ≤ 8796093022208) (hN : RwNum O1 O2 F b1 b2 a.next.length a.out.length) (h : RwAt σ.hp O1 O2 F b1 b2 a r1 r2)
    (hk : K (.d (iD (k + a.tot : Nat))) (σ.withHp (setRw σ.hp O1 O2 F b1 b2 a k r1 r2))) : CallVC Try.prog 18 [rwAV O1 O2 F a, iA k] σ K := by
  obtain ⟨⟨q1, q2, q3⟩, ⟨q4, q5, q6, q7⟩, ⟨q8, q9, q10, q11, q12⟩, ⟨q13, q14⟩, q15⟩ := hN
  unfold OutF at *
  have l1 := rowsI_len a.next
  have l2 := rowsS_len a.out
  have m1 := markRw_next a k
  have m2 := markRw_out a k
  have g1 : gW O1 O2 F b1 a.next.length b2 a.out.length 1 = O1 := by simp [gW]
  have g2 : gW O1 O2 F b1 a.next.length b2 a.out.length 2 = O2 := by simp [gW]
  have g3 : gW O1 O2 F b1 a.next.length b2 a.out.length 3 = F := by simp [gW]
  have gF : ∀ i, i < a.next.length → gW O1 O2 F b1 a.next.length b2 a.out.length (bF + i) = b1 + i := fun i hi => by
    unfold gW
    rw [if_neg (by unfold bF; omega), if_neg (by unfold bF; omega), if_neg (by unfold bF; omega), if_pos (by omega)]; omega
  have gG : ∀ i, i < a.out.length → gW O1 O2 F b1 a.next.length b2 a.out.length (bG + i) = b2 + i := fun i hi => by
    unfold gW
    rw [if_neg (by unfold bG; omega), if_neg (by unfold bG; omega), if_neg (by unfold bG; omega), if_neg (by unfold bF bG; omega), if_pos (by omega)]; omega
  have hkeys : ∀ q, q ∈ (((1, Blk.bx (outY bF (rowsI a.next) r1)) :: (2, Blk.bx (outY bG (rowsS a.out) r2)) :: (3, Blk.ar 1 (a.fin.map sD)) :: (famH bF (rowsI a.next) ++ famH bG (rowsS a.out))).map Prod.fst) ↔ q = 1 ∨ q = 2 ∨ q = 3 ∨ (bF ≤ q ∧ q < bF + a.next.length) ∨ (bG ≤ q ∧ q < bG + a.out.length) := fun q => by
    rw [List.map_cons, List.map_cons, List.map_cons, List.map_append, List.mem_cons, List.mem_cons, List.mem_cons, List.mem_append, famH_key, famH_key, l1, l2]
  refine .lendM (gW O1 O2 F b1 a.next.length b2 a.out.length) (c_markRewriter a k r1 r2 hk0 hn hn2 hk2) (by simp [rwAV, AV.ren, AV.renL, g1, g2, g3]) (fun q hq => ?_) (fun q blk hq => ?_) ?_ (fun q q' h1 h2 e => ?_) ?_
  · rw [hkeys] at hq
    unfold gW
    rw [if_neg (by omega), if_neg (by omega), if_neg (by omega), if_neg (by omega), if_neg (by omega)]
  · rw [List.mem_cons, List.mem_cons, List.mem_cons, List.mem_append] at hq
    rcases hq with hq | hq | hq | hq | hq
    · simp only [Prod.mk.injEq] at hq
      obtain ⟨rfl, rfl⟩ := hq
      refine ⟨by omega, ?_⟩
      rw [g1, h.o1]
      show _ = some (Blk.bx (AV.renL _ _))
      rw [outY_ren fun i hi => gF i (by omega)]
    · simp only [Prod.mk.injEq] at hq
      obtain ⟨rfl, rfl⟩ := hq
      refine ⟨by omega, ?_⟩
      rw [g2, h.o2]
      show _ = some (Blk.bx (AV.renL _ _))
      rw [outY_ren fun i hi => gG i (by omega)]
    · simp only [Prod.mk.injEq] at hq
      obtain ⟨rfl, rfl⟩ := hq
      refine ⟨by omega, ?_⟩
      rw [g3, h.f]; rfl
    · obtain ⟨i, w, rfl, hw, rfl⟩ := famH_mem hq
      have hi : i < a.next.length := by
        have := (List.getElem?_eq_some_iff.1 hw).1
        omega
      refine ⟨by unfold bF; omega, ?_⟩
      rw [gF i hi, Nat.add_comm, h.f1 i w hw]; rfl
    · obtain ⟨i, w, rfl, hw, rfl⟩ := famH_mem hq
      have hi : i < a.out.length := by
        have := (List.getElem?_eq_some_iff.1 hw).1
        omega
      refine ⟨by unfold bG; omega, ?_⟩
      rw [gG i hi, Nat.add_comm, h.f2 i w hw]; rfl
  · simp only [List.map_cons, List.map_append, List.nodup_cons, List.mem_cons, List.mem_append, famH_key, List.nodup_append]
    refine ⟨by unfold bF bG; omega, by unfold bF bG; omega, by unfold bF bG; omega, famH_nodup _ _, famH_nodup _ _, fun x hx y hy => ?_⟩
    unfold bF bG at *; omega
  · rw [hkeys] at h1 h2
    have hc : ∀ q, (q = 1 ∨ q = 2 ∨ q = 3 ∨ (bF ≤ q ∧ q < bF + a.next.length) ∨ (bG ≤ q ∧ q < bG + a.out.length)) → (q = 1 ∧ gW O1 O2 F b1 a.next.length b2 a.out.length q = O1) ∨ (q = 2 ∧ gW O1 O2 F b1 a.next.length b2 a.out.length q = O2) ∨ (q = 3 ∧ gW O1 O2 F b1 a.next.length b2 a.out.length q = F) ∨ (bF ≤ q ∧ q < bF + a.next.length ∧ gW O1 O2 F b1 a.next.length b2 a.out.length q = q - bF + b1) ∨ (bG ≤ q ∧ q < bG + a.out.length ∧ gW O1 O2 F b1 a.next.length b2 a.out.length q = q - bG + b2) := fun q hq => by
      rcases hq with rfl | rfl | rfl | hq | hq
      · exact .inl ⟨rfl, g1⟩
      · exact .inr (.inl ⟨rfl, g2⟩)
      · exact .inr (.inr (.inl ⟨rfl, g3⟩))
      · have := gF (q - bF) (by omega)
        rw [show bF + (q - bF) = q by omega] at this
        exact .inr (.inr (.inr (.inl ⟨hq.1, hq.2, by omega⟩)))
      · have := gG (q - bG) (by omega)
        rw [show bG + (q - bG) = q by omega] at this
        exact .inr (.inr (.inr (.inr ⟨hq.1, hq.2, by omega⟩)))
    have i1 : ∀ x, b1 ≤ x → x < b1 + a.next.length → x ≠ O1 ∧ x ≠ O2 ∧ x ≠ F := fun x h1 h2 => ⟨by omega, by omega, by omega⟩
    have i2 : ∀ x, b2 ≤ x → x < b2 + a.out.length → x ≠ O1 ∧ x ≠ O2 ∧ x ≠ F := fun x h1 h2 => ⟨by omega, by omega, by omega⟩
    have i3 : ∀ x y, b1 ≤ x → x < b1 + a.next.length → b2 ≤ y → y < b2 + a.out.length → x ≠ y := fun x y h1 h2 h3 h4 => by omega
    have c1 := hc q h1
    have c2 := hc q' h2
    clear hc hkeys h1 h2 gF gG g1 g2 g3 q2 q3 q5 q6 q9 q10 q15 h hk
    generalize gW O1 O2 F b1 a.next.length b2 a.out.length q = v at *
    subst e
    rcases c1 with ⟨h1, h2⟩ | ⟨h1, h2⟩ | ⟨h1, h2⟩ | ⟨h1, h2, h3⟩ | ⟨h1, h2, h3⟩ <;> rcases c2 with ⟨k1, k2⟩ | ⟨k1, k2⟩ | ⟨k1, k2⟩ | ⟨k1, k2, k3⟩ | ⟨k1, k2, k3⟩
    all_goals first
      | omega
      | exact absurd (k2.symm.trans h2) (by omega)
      | (have := i1 (q - bF + b1) (by omega) (by omega); omega)
      | (have := i1 (q' - bF + b1) (by omega) (by omega); omega)
      | (have := i2 (q - bG + b2) (by omega) (by omega); omega)
      | (have := i2 (q' - bG + b2) (by omega) (by omega); omega)
      | (have := i3 (q - bF + b1) (q' - bG + b2) (by omega) (by omega) (by omega) (by omega); omega)
      | (have := i3 (q' - bF + b1) (q - bG + b2) (by omega) (by omega) (by omega) (by omega); omega)
  rintro _ _ _ ⟨rfl, rfl⟩
  have hE : resE (gW O1 O2 F b1 a.next.length b2 a.out.length) 100 (List.map Prod.fst ((1, Blk.bx (outY bF (rowsI a.next) r1)) :: (2, Blk.bx (outY bG (rowsS a.out) r2)) :: (3, Blk.ar 1 (a.fin.map sD)) :: (famH bF (rowsI a.next) ++ famH bG (rowsS a.out)))) (.bx (outY bF (rowsI a.next) r1) :: .bx (outY bG (rowsS a.out) r2) :: .ar 1 ((markRw a k).fin.map sD) :: ((rowsI (markRw a k).next).map (.ar 1) ++ (rowsS (markRw a k).out).map (.ar 1))) [] = (O1, .bx (outY b1 (rowsI a.next) r1)) :: (O2, .bx (outY b2 (rowsS a.out) r2)) :: (F, .ar 1 ((markRw a k).fin.map sD)) :: (famH b1 (rowsI (markRw a k).next) ++ famH b2 (rowsS (markRw a k).out)) := by
    have hrn : ∀ q, (q < 100 ∨ bF ≤ q) → renOf (gW O1 O2 F b1 a.next.length b2 a.out.length) 100 [] q = gW O1 O2 F b1 a.next.length b2 a.out.length q := fun q hq => by unfold renOf; rw [if_pos (by unfold bF at hq; omega)]
    have hz : (famU bF (rowsI a.next).length ++ famU bG (rowsS a.out).length).zip ((rowsI (markRw a k).next).map (Blk.ar 1) ++ (rowsS (markRw a k).out).map (Blk.ar 1)) = famH bF (rowsI (markRw a k).next) ++ famH bG (rowsS (markRw a k).out) := by
      rw [List.zip_append (by simp [famU, l1, m1]), zip_fam _ _ _ (by omega), zip_fam _ _ _ (by omega)]
    simp only [resE, List.append_nil, List.map_cons, List.map_append, famH_keys, List.zip_cons_cons, hz]
    rw [hrn 1 (by omega), hrn 2 (by omega), hrn 3 (by omega), g1, g2, g3]
    have hbG : bF ≤ bG := by unfold bF bG; omega
    congr 1
    · show (O1, Blk.bx (AV.renL _ (AV.kpL _ (outY bF (rowsI a.next) r1)))) = _
      rw [outY_kp fun i hi => ?_, outY_ren fun i hi => ?_]
      · rw [hrn (bF + i) (by omega), gF i (by omega)]
      · simp only [outE, List.map_nil, Bool.not_eq_false', List.contains_cons, List.contains_eq_mem, List.mem_append, famU_mem]
        simp [hi]
    congr 1
    · show (O2, Blk.bx (AV.renL _ (AV.kpL _ (outY bG (rowsS a.out) r2)))) = _
      rw [outY_kp fun i hi => ?_, outY_ren fun i hi => ?_]
      · rw [hrn (bG + i) (by omega), gG i (by omega)]
      · simp only [outE, List.map_nil, Bool.not_eq_false', List.contains_cons, List.contains_eq_mem, List.mem_append, famU_mem]
        simp [hi]
    congr 1
    congr 1
    · refine map_famR _ _ fun i w hi => ?_
      show (renOf _ 100 [] (bF + i), Blk.ar 1 w) = _
      rw [hrn (bF + i) (by omega), gF i (by omega)]
    · refine map_famR _ _ fun i w hi => ?_
      show (renOf _ 100 [] (bG + i), Blk.ar 1 w) = _
      rw [hrn (bG + i) (by omega), gG i (by omega)]
  rw [hE]
  exact hk
theorem setRw_off {j k : Nat} (h : j ≠ O1 ∧ j ≠ O2 ∧ j ≠ F ∧ OutF b1 a.next.length j ∧ OutF b2 a.out.length j) : (setRw hp O1 O2 F b1 b2 a k r1 r2).heap j = hp.heap j := by
  obtain ⟨h1, h2, h3, h4, h5⟩ := h
  unfold OutF at h4 h5
  have e1 : lookH (famH b1 (rowsI (markRw a k).next)) j = none := by
    rw [famH_look]
    by_cases hb : b1 ≤ j
    · rw [if_pos hb, List.getElem?_eq_none (by rw [markRw_next]; omega)]; rfl
    · rw [if_neg hb]
  have e2 : lookH (famH b2 (rowsS (markRw a k).out)) j = none := by
    rw [famH_look]
    by_cases hb : b2 ≤ j
    · rw [if_pos hb, List.getElem?_eq_none (by rw [markRw_out]; omega)]; rfl
    · rw [if_neg hb]
  rw [setRw, setAll_heap, lookH, if_neg h1, lookH, if_neg h2, lookH, if_neg h3, lookH_app, e1, e2]
theorem setRw_at {k : Nat} (hN : RwNum O1 O2 F b1 b2 a.next.length a.out.length) : RwAt (setRw hp O1 O2 F b1 b2 a k r1 r2) O1 O2 F b1 b2 (markRw a k) r1 r2 := by
  obtain ⟨⟨q1, q2, q3⟩, ⟨q4, q5, q6, q7⟩, ⟨q8, q9, q10, q11, q12⟩, ⟨q13, q14⟩, q15⟩ := hN
  unfold OutF at *
  have m1 := markRw_next a k
  have m2 := markRw_out a k
  refine ⟨?_, ?_, ?_, fun i x hx => ?_, fun i x hx => ?_⟩
  · rw [setRw, setAll_heap, lookH, if_pos rfl, outY_mark1]
  · rw [setRw, setAll_heap, lookH, if_neg q7, lookH, if_pos rfl, outY_mark2]
  · rw [setRw, setAll_heap, lookH, if_neg q11, lookH, if_neg q12, lookH, if_pos rfl]
  · have := (List.getElem?_eq_some_iff.1 hx).1
    rw [setRw, setAll_heap, lookH, if_neg (by omega), lookH, if_neg (by omega), lookH, if_neg (by omega), famH_app_at hx]
  · have := (List.getElem?_eq_some_iff.1 hx).1
    have e : lookH (famH b1 (rowsI (markRw a k).next)) (i + b2) = none := by
      rw [famH_look]
      by_cases hb : b1 ≤ i + b2
      · rw [if_pos hb, List.getElem?_eq_none (by omega)]; rfl
      · rw [if_neg hb]
    rw [setRw, setAll_heap, lookH, if_neg (by omega), lookH, if_neg (by omega), lookH, if_neg (by omega), lookH_app, e, famH_ati hx]
end
theorem tp_back {x : AV} {v : D} {g : Nat → Nat} {base : Nat} {keys : List Nat} {res : List (Nat × Blk)} : (AV.tp [x, .d v]).back g base keys res = .tp [x.back g base keys res, .d v] := rfl
theorem totS_bound {n : Nat} : ∀ {L : List (List (List UInt8))}, (∀ x ∈ L, x.length ≤ n) → totS L ≤ L.length * n
  | [], _ => by simp [totS]
  | x :: t, h => by
    have h1 := h x (by simp)
    have h2 := totS_bound (L := t) fun y hy => h y (by simp [hy])
    have : totS (x :: t) = x.length + totS t := by simp [totS]
    rw [this, List.length_cons, Nat.add_mul]; omega
theorem Rw.small.tot {a : Rw} (h : a.small) : a.tot ≤ 2199024304128 := by
  have a3 := tot_bound h.row
  have a4 : a.next.length * 1048576 ≤ 1048576 * 1048576 := Nat.mul_le_mul_right _ h.next
  have a5 := totS_bound fun x hx => (h.orow x hx).1
  have a6 : a.out.length * 1048576 ≤ 1048576 * 1048576 := Nat.mul_le_mul_right _ h.out
  have a7 := h.fin
  unfold Rw.tot; omega
theorem rwOk (r : Rw) (h : r.small) : Fam2Ok 4000000000 5000000000 [(600, .ar 1 (r.fin.map sD))] 4000000001 (rowsI r.next) 5000000001 (rowsS r.out) := by
  have n1 := h.next
  have n2 := h.out
  have l1 := rowsI_len r.next
  have l2 := rowsS_len r.out
  refine ⟨⟨by omega, by omega, .inl (by omega), .inl (by omega)⟩, ⟨by omega, by omega, .inr (by omega), .inl (by omega), by omega⟩, fun q hq => ?_, by simp, by omega, by omega, by omega⟩
  simp only [List.mem_cons, List.not_mem_nil, or_false] at hq
  subst hq
  exact ⟨⟨by simp, by simp, .inl (by simp), .inl (by simp), by simp, by simp⟩, rfl⟩
theorem heapLe_famI {σ : AS} {used : List Nat} {L : List (List D)} {b : Nat} (h1 : ∀ i x, L[i]? = some x → σ.hp.heap (i + b) = some (.ar 1 x)) (h2 : ∀ j, b ≤ j → j < b + L.length → used.contains j = true ∨ outU used j = false) : heapLe σ used (famH b L) := by
  refine heapLe_fam _ _ fun i x hx => ⟨by rw [Nat.add_comm]; exact h1 i x hx, ?_⟩
  have := (List.getElem?_eq_some_iff.1 hx).1
  rcases h2 (b + i) (by omega) (by omega) with h | h
  · exact .inr h
  · simp only [outU, Bool.not_eq_false', Bool.or_eq_true, decide_eq_true_eq] at h
    exact h
end Go.Fw
