/- The rewriter that copies, as rows of the caller's own; what is exact of it. -/
import Derived.Test.YtafegamilfnmcaaUa
import Derived.Test.YtafegamilfnmcaaLn
set_option linter.unusedSimpArgs false
set_option linter.unusedVariables false
namespace Go.Fw
open Go Go.Proofs
set_option linter.unusedSectionVars false
set_option linter.unnecessarySimpa false

set_option maxRecDepth 100000 in
theorem c_heldStringS (n k : Nat) (hk : 0 < k) (hk2 : k + n ≤ 1099511627776) : DCalls Try.prog 23 [.d (ssD (marksS k n)), iA k] fun r => r = iD (k + n : Nat) := by
  refine dcalls_intro Ty.mixed Try.func23 rfl rfl rfl [] (by kernel_rfl) (by simp) ?_
  have hml := marksS_len k n
  simp
  refine LoopVC.at { i : Nat // i ≤ n } (fun i => [(0, .d (ssD (marksS k n))), (1, iA (k + i.1 : Nat)), (5, iA i.1)]) (fun _ => []) [] (fun i => n - i.1) ⟨0, by simp⟩ (by simp) (by simp) ?_
  rintro ⟨i, hi⟩
  rcases Nat.lt_or_ge i n with h | h
  · have hg := marksS_get k h
    simp [h, hml]
    refine .one (sch [.pur 0, .pur 1, .pur 2, .pur 3, .pur 4, .eff 5 [0, 1, 2, 3], .pur 6]) (by kernel_rfl) ?_
    simp [h, hml, hg]
    refine .dval (c_markText (k + i) (by omega) (by omega)) rfl (by simp) rfl ?_
    simp [h, hml, hg]
    refine ⟨i + 1, .mk ?_ (by simp), h, by omega⟩
    simp
    exact ⟨by rw [wrap64 (by omega) (by omega)]; omega, wrap64 (by omega) (by omega)⟩
  · have : i = n := by omega
    subst this
    simp [hml]

set_option maxRecDepth 100000 in
theorem c_heldIntSS1 (n k : Nat) (hk2 : k + n ≤ 1099511627776) : DCalls Try.prog 21 [.d (.list [intsD (marksI k n)]), iA k] fun r => r = iD (k + n : Nat) := by
  refine dcalls_intro Ty.mixed Try.func21 rfl rfl rfl [] (by kernel_rfl) (by simp) ?_
  simp
  refine LoopVC.at Bool (fun b => [(0, .d (.list [intsD (marksI k n)])), (1, iA (if b then k + n else k : Nat)), (5, iA (if b then 1 else 0))]) (fun _ => []) [] (fun b => if b then 0 else 1) false (by simp) (by simp) ?_
  rintro (_ | _)
  · simp
    refine .dval (c_heldIntS n k (by omega) (by omega)) rfl (by simp) rfl ?_
    simp
    exact ⟨fun _ => by omega, fun _ => .mk (by simp; decide) (by simp)⟩
  · simp
set_option maxRecDepth 100000 in
theorem c_heldStringSS1 (n k : Nat) (hk : 0 < k) (hk2 : k + n ≤ 1099511627776) : DCalls Try.prog 22 [.d (.list [ssD (marksS k n)]), iA k] fun r => r = iD (k + n : Nat) := by
  refine dcalls_intro Ty.mixed Try.func22 rfl rfl rfl [] (by kernel_rfl) (by simp) ?_
  simp
  refine LoopVC.at Bool (fun b => [(0, .d (.list [ssD (marksS k n)])), (1, iA (if b then k + n else k : Nat)), (5, iA (if b then 1 else 0))]) (fun _ => []) [] (fun b => if b then 0 else 1) false (by simp) (by simp) ?_
  rintro (_ | _)
  · simp
    refine .dval (c_heldStringS n k (by omega) (by omega)) rfl (by simp) rfl ?_
    simp
    exact ⟨fun _ => by omega, fun _ => .mk (by simp; decide) (by simp)⟩
  · simp

/-- The copying rewriter, marked. -/
def markedD : D := .agg [.list [intsD (marksI 1 3)], .list [ssD (marksS 4 3)], ssD (marksS 7 1)]
set_option maxRecDepth 100000 in
theorem c_heldRewriter1 : DCalls Try.prog 9 [.d markedD, iA 1] fun r => r = iD 8 := by
  refine dcalls_intro Ty.mixed Try.func9 rfl rfl rfl [2] (by kernel_rfl) (by simp) ?_
  simp [markedD]
  refine .dval (c_heldIntSS1 3 1 (by omega)) rfl (by simp) rfl ?_
  simp
  refine .dval (c_heldStringSS1 3 4 (by omega) (by omega)) rfl (by simp) rfl ?_
  simp
  refine .dval (c_heldStringS 1 7 (by omega) (by omega)) rfl (by simp) rfl ?_
  simp

/-! ### The rewriter as it is built -/
set_option maxRecDepth 100000 in
theorem f_row (t : Int) : FCalls Try.prog 14 [iA t] fun x res => x = .sl 1 600 0 3 ∧ res = [(600, .ar 1 [iD t, iD t, iD t])] := by
  refine gcalls_intro Ty.mixed Try.func14 rfl rfl rfl [] (by kernel_rfl) (by simp) ?_
  simp
  exact ⟨rfl, rfl⟩
/-- Its rows. -/
def cpRes (fin : List D) (a b : List D) : List (Nat × Blk) := [(200, .bx [.sl 1 2001 0 3]), (400, .bx [.sl 1 300 0 3]), (500, .ar 1 fin), (2001, .ar 1 a), (300, .ar 1 b)]
set_option maxRecDepth 100000 in
theorem f_CopyRewriter : FCalls Try.prog 6 [] fun x res => x = .ag [.sl 1 200 0 1, .sl 1 400 0 1, .sl 1 500 0 1] ∧ res = cpRes [sD []] [iD 0, iD 0, iD 0] [sD [97], sD [98], sD [99]] := by
  refine gcalls_intro Ty.mixed Try.func6 rfl rfl rfl [1002, 1004] (by kernel_rfl) (by simp) ?_
  simp
  refine .freshG 2001 (f_row 0) rfl rfl (by simp) (by omega) ?_
  rintro _ _ ⟨rfl, rfl⟩
  refine ⟨⟨by simp, by simp, fun j hj => ?_⟩, ?_⟩
  · simp at hj; subst hj; simp
  simp [newL, newBs, Blk.kp, Blk.ren, AV.back, AV.kp, AV.ren, outE, renOf, posOf]
  refine ⟨rfl, fun a b hm => ?_, rfl, rfl, rfl⟩
  simp only [cpRes, List.mem_cons, Prod.mk.injEq, List.not_mem_nil, or_false] at hm
  rcases hm with ⟨rfl, rfl⟩ | ⟨rfl, rfl⟩ | ⟨rfl, rfl⟩ | ⟨rfl, rfl⟩ | ⟨rfl, rfl⟩ <;> exact ⟨by omega, rfl, rfl⟩

section
variable {P : Program} {σ : AS}
theorem CallVC.lend2 {f : FuncId} {zs args : List AV} {b1 b2 : Blk} {R : D → List Blk → Prop} {K : AV → AS → Prop} (i1 i2 : Nat) (n12 : i1 ≠ i2) (hc : MCalls P f args [(1, b1), (2, b2)] R) (has : zs = args.map (AV.ren (g2 i1 i2)))
    (h1 : σ.hp.heap i1 = some (b1.ren (g2 i1 i2))) (h2 : σ.hp.heap i2 = some (b2.ren (g2 i1 i2))) (hk : ∀ r c1 c2, R r [c1, c2] → K (.d r) (σ.withHp (setAll σ.hp (resE (g2 i1 i2) 100 [1, 2] [c1, c2] [])))) : CallVC P f zs σ K := by
  refine .lendM (g2 i1 i2) hc has (fun q hq => ?_) (fun q blk hq => ?_) (by simp) (fun q q' h h' e => ?_) (fun r bs hl hR => ?_)
  · simp at hq; simp [g2, hq]
  · simp at hq
    rcases hq with ⟨rfl, rfl⟩ | ⟨rfl, rfl⟩
    · exact ⟨by omega, by simpa [g2] using h1⟩
    · exact ⟨by omega, by simpa [g2] using h2⟩
  · simp at h h'
    rcases h with rfl | rfl <;> rcases h' with rfl | rfl <;> simp [g2] at e <;> first | rfl | exact absurd e n12 | exact absurd e.symm n12
  · match bs, hl, hR with
    | [c1, c2], _, hR => exact hk r c1 c2 hR
end

set_option maxRecDepth 100000 in
theorem c_markRewriter1 (fin a b : List D) (ha : a = [iD 0, iD 0, iD 0]) (hb : b = [sD [97], sD [98], sD [99]]) (hf : fin = [sD []]) : MCalls Try.prog 8 [.ag [.sl 1 1 0 1, .sl 1 2 0 1, .sl 1 3 0 1], iA 1] [(1, .bx [.sl 1 4 0 3]), (2, .bx [.sl 1 5 0 3]), (3, .ar 1 fin), (4, .ar 1 a), (5, .ar 1 b)] fun r bs => r = iD 8 ∧ bs = [.bx [.sl 1 4 0 3], .bx [.sl 1 5 0 3], .ar 1 ((marksS 7 1).map sD), .ar 1 ((marksI 1 3).map iD), .ar 1 ((marksS 4 3).map sD)] := by
  subst ha hb hf
  refine mcalls_intro Ty.mixed Try.func8 rfl rfl rfl [2] (by kernel_rfl) (by simp) ?_
  simp
  refine .lend2 1 4 (by omega) (c_markIntSS1 [0, 0, 0] 1 (by simp)) (by simp [g2, AV.ren]) rfl rfl ?_
  rintro _ _ _ ⟨rfl, h⟩
  simp at h
  obtain ⟨rfl, rfl⟩ := h
  simp [setAll, resE, Blk.kp, AV.kpL, AV.kp, outE, Blk.ren, AV.renL, AV.ren, renOf, posOf, g2]
  refine .lend2 2 5 (by omega) (c_markStringSS1 [[97], [98], [99]] 4 (by omega) (by simp)) (by simp [g2, AV.ren]) rfl rfl ?_
  rintro _ _ _ ⟨rfl, h⟩
  simp at h
  obtain ⟨rfl, rfl⟩ := h
  simp [setAll, resE, Blk.kp, AV.kpL, AV.kp, outE, Blk.ren, AV.renL, AV.ren, renOf, posOf, g2]
  refine .lend1 3 (c_markStringS [[]] 7 (by omega) (by simp)) (by simp [g1, AV.ren]) rfl rfl ?_
  rintro _ _ ⟨rfl, h⟩ _
  simp at h
  subst h
  simp
  exact ⟨rfl, rfl⟩

def gb (q : Nat) : Nat := if 1 ≤ q ∧ q ≤ 5 then 3000 + q else 0
theorem copyRw_sm : copyRw.small where
  next := by decide
  row := by decide
  out := by decide
  orow := by decide
  fin := by decide
  ftext := by decide
set_option maxHeartbeats 800000 in
set_option maxRecDepth 100000 in
theorem c_FnExactCopyRewriter : DCalls Try.prog 3 [] fun y => y = .bool true := by
  refine dcalls_intro Ty.mixed Try.func3 rfl rfl rfl [1, 5] (by kernel_rfl) (by simp) ?_
  simp
  refine .ddat c_sCopyRewriter rfl (by simp) ?_
  rintro _ rfl
  simp [copyRw, Rw.d]
  refine .freshG 3001 f_CopyRewriter rfl rfl (by simp) (by omega) ?_
  rintro _ _ ⟨rfl, rfl⟩
  refine ⟨⟨by simp [cpRes], by simp [cpRes], fun j hj => ?_⟩, ?_⟩
  · simp [cpRes] at hj
    obtain rfl | rfl | rfl | rfl | rfl : j = 0 ∨ j = 1 ∨ j = 2 ∨ j = 3 ∨ j = 4 := by omega
    all_goals simp
  simp [newL, newBs, cpRes, Blk.kp, Blk.ren, AV.kpL, AV.renL, AV.back, AV.kp, AV.ren, outE, renOf, posOf]
  refine .dval (c_eqRewriter copyRw copyRw copyRw_sm) rfl (by simp) rfl ?_
  simp
  refine .lendM gb (c_markRewriter1 _ _ _ rfl rfl rfl) (by simp [gb, AV.ren, AV.renL]) (fun q hq => ?_) (fun q blk hq => ?_) (by simp) (fun q q' h h' e => ?_) ?_
  · simp at hq
    unfold gb
    rw [if_neg (by omega)]
  · simp only [List.mem_cons, Prod.mk.injEq, List.not_mem_nil, or_false] at hq
    rcases hq with ⟨rfl, rfl⟩ | ⟨rfl, rfl⟩ | ⟨rfl, rfl⟩ | ⟨rfl, rfl⟩ | ⟨rfl, rfl⟩ <;> exact ⟨by omega, rfl⟩
  · simp at h h'
    unfold gb at e
    rw [if_pos (by omega), if_pos (by omega)] at e
    omega
  rintro _ _ _ ⟨rfl, rfl⟩
  simp [setAll, resE, Blk.kp, AV.kpL, AV.kp, outE, Blk.ren, AV.renL, AV.ren, renOf, posOf, gb]
  refine .dval c_heldRewriter1 rfl (by simp [marksI_len, marksS_len]) rfl ?_
  simp
  refine .ddat c_CopyRewriter rfl (by simp) ?_
  rintro _ rfl
  simp [copyRw, Rw.d]
  refine .dval (c_eqRewriter copyRw copyRw copyRw_sm) rfl (by simp) rfl ?_
  simp
  refine .dval c_heldRewriter1 rfl (by simp [marksI_len, marksS_len]) rfl ?_
  simp
end Go.Fw
