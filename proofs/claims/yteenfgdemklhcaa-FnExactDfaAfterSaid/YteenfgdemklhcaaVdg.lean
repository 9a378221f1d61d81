/- The framework, part Vdg. -/
import Derived.Test.YteenfgdemklhcaaVdf
import Derived.Test.YteenfgdemklhcaaSe
set_option linter.unusedSimpArgs false
set_option linter.unusedVariables false
/- What follows a word, in rows of the caller's own. -/
namespace Go.Fw
open Go Go.Proofs
set_option linter.unusedSectionVars false
set_option linter.unnecessarySimpa false

set_option maxRecDepth 100000 in
theorem f_DfaAfter (a : Df) (s : List UInt8) (hf : a.fine) (hsl : s.length ≤ 9223372036854775807) : FCalls Try.prog 9 [.d a.d, sA s] fun x res => DfIs 3000000000 3000000001 3000000002 (AfterIs a s) x res := by
  refine gcalls_intro Ty.mixed Try.func9 rfl rfl rfl [2] (by kernel_rfl) (by simp) ?_
  simp [Df.d]
  refine .dval (c_DfaValid a hf) rfl (by simp [Df.d]) rfl ?_
  simp
  refine .flat (fun _ => c_WordValid s hsl) rfl (by simp) rfl (by simp) ?_
  simp
  refine ⟨fun hno => ⟨[], .inr ⟨rfl, rfl, .inr ⟨fun ⟨h1, h2⟩ => by rw [h1, h2] at hno; simp at hno, rfl⟩⟩, by simp⟩, fun h1 h2 => ?_⟩
  have hw := letters_all h2
  have hl8 := letters_len h2
  have hst := run_st h1 (st0 h1) hw
  refine .one (sch [.pur 0, .pur 1, .pur 2, .eff 3 [0], .eff 4 [], .eff 5 [], .eff 6 []]) (by kernel_rfl) ?_
  simp
  refine .dval (c_dfRun a 0 s h1 (st0 h1) hw (by omega)) rfl (by simp [Df.d]) rfl ?_
  simp
  refine .ddat (c_from a (a.run 0 s) h1 hst) rfl (by simp [Df.d]) ?_
  rintro _ ⟨A, rfl, hA1, hA2⟩
  simp [Df.d]
  refine .freshG 3000000000 (f_minimize A hA1) rfl (by simp [Df.d]) (by simp) (by omega) ?_
  rintro _ _ ⟨y, r, hy, yl, ye, rfl, rfl⟩
  have hok := dfOk 2000000000 2000000001 2000000003 y (by omega) (by omega)
  have hok2 := dfOk 3000000000 3000000001 3000000002 y (by omega) (by omega)
  refine ⟨⟨hok.nodup, hok.rng, fun j hj => ?_⟩, ?_⟩
  · rw [dfR, famR_len] at hj
    simp [rowsI] at hj ⊢
    omega
  rw [df_back hok (by omega), dfR, hok.newS]
  simp [-retXP_is, dfAV]
  refine retXP_fam (r := r) trivial hok2 (.inl ⟨y, r, .inl ⟨h1, h2, hy.1, hy.2.trans hA2⟩, yl, ye, rfl, rfl⟩) ?_ ?_ ?_ ?_
  · simp
  · simp
  · intro i x hx
    simp [famS_atN hx]
  · have k0 := hok2.k0 (r := r)
    have k1 := hok2.k1 (r := r) (q := (3000000001, .ar 1 (y.ends.map bD))) (by simp)
    simp [k0, k1]
end Go.Fw

/- What is exact of DfaAfter. -/
namespace Go.Fw
open Go Go.Proofs
set_option linter.unusedSectionVars false
set_option linter.unnecessarySimpa false

theorem AfterIs.small {a x : Df} {s : List UInt8} (h : AfterIs a s x) : x.small := by
  rcases h with ⟨_, _, h3, _⟩ | ⟨_, rfl⟩
  · exact small_of_okDf h3.ok
  · exact small_nil
set_option maxRecDepth 100000 in
theorem c_markIntSS0 (k : Nat) : DCalls Try.prog 35 [.d (rowsD []), iA k] fun y => y = iD k := by
  refine dcalls_intro Ty.mixed Try.func35 rfl rfl rfl [] (by kernel_rfl) (by simp) ?_
  simp
  refine LoopVC.at Unit (fun _ => [(0, .d (rowsD [])), (1, iA k), (5, iA 0)]) (fun _ => []) [] (fun _ => 0) () (by simp) (by simp) ?_
  rintro ⟨⟩
  simp
set_option maxRecDepth 100000 in
theorem c_markBoolS0 (k : Nat) : DCalls Try.prog 36 [.d (bsD []), iA k] fun y => y = iD k := by
  refine dcalls_intro Ty.mixed Try.func36 rfl rfl rfl [] (by kernel_rfl) (by simp) ?_
  simp
  refine LoopVC.at Unit (fun _ => [(0, .d (bsD [])), (1, iA k), (5, iA 0)]) (fun _ => []) [] (fun _ => 0) () (by simp) (by simp) ?_
  rintro ⟨⟩
  simp
set_option maxRecDepth 100000 in
theorem c_markDfa0 (k : Nat) : DCalls Try.prog 11 [.d (Df.mk [] []).d, iA k] fun y => y = iD k := by
  refine dcalls_intro Ty.mixed Try.func11 rfl rfl rfl [2] (by kernel_rfl) (by simp) ?_
  simp [Df.d]
  refine .dval (c_markIntSS0 k) rfl (by simp) rfl ?_
  simp
  refine .dval (c_markBoolS0 k) rfl (by simp) rfl ?_
  simp
set_option maxHeartbeats 2000000 in
set_option maxRecDepth 100000 in
theorem c_FnExactDfaAfter (a : Df) (s : List UInt8) (h : a.fine) (hs' : s.length ≤ 9223372036854775807) : DCalls Try.prog 3 [.d a.d, sA s] fun y => y = .bool true := by
  refine dcalls_intro Ty.mixed Try.func3 rfl rfl rfl [2] (by kernel_rfl) (by simp) ?_
  simp [Df.d]
  intro hsl
  refine .ddat (c_szDfa a 1048576 (by omega) h) rfl (by simp) ?_
  rintro _ ⟨v, rfl, h1, h2, h3⟩
  simp
  intro hz
  have hs := h3 hz
  have a1 := hs.next
  have a2 := hs.ends
  have a3 := hs.tot
  refine .ddat (c_toDfa a hs) rfl (by simp) ?_
  rintro _ rfl
  simp
  refine .ddat (c_sDfaAfter a s h hs') rfl (by simp [Df.d]) ?_
  rintro _ ⟨w, rfl, hw⟩
  simp [Df.d]
  refine .freshG 6000000000 (f_toDfa a hs.next hs.row hs.ends) rfl (by simp [Df.d]) (by simp) (by omega) ?_
  rintro _ _ ⟨rfl, rfl⟩
  have hokx := dfOk 4000000000 600 4000000001 a (by omega) (by omega)
  refine ⟨⟨hokx.nodup, hokx.rng, fun j hj => ?_⟩, ?_⟩
  · rw [dfR, famR_len, rowsI_len] at hj
    simp at hj ⊢
    omega
  rw [df_back hokx (by omega), dfR, hokx.newS]
  simp [dfAV]
  refine .freshE 5000000000 (f_DfaAfter a s h hs') (DfAt.view (O := 6000000000) (E := 6000000001) (b := 6000000002) (r := 0) ⟨by simp, by simp, fun i x hx => by simp [famS_atN hx]⟩ (zs := [sA s]) rfl ⟨trivial, trivial⟩) (by omega) ?_
  rintro _ _ (⟨y, r, hy, yl, ye, rfl, rfl⟩ | ⟨rfl, rfl, hy⟩)
  · obtain rfl := hy.uniq hw
    have hoky := dfOk 3000000000 3000000001 3000000002 y (by omega) (by omega)
    refine ⟨⟨hoky.nodup, hoky.rng, fun j hj => ?_, dfAV_flat, dfR_flat⟩, ?_⟩
    · rw [dfR, famR_len, rowsI_len] at hj
      simp [rowsI_len] at hj ⊢
      omega
    rw [df_back hoky (by omega), dfR, hoky.newS]
    simp [dfAV]
    have hys := hy.small
    have y3 := hys.tot
    have hyl : (rowsI y.next).length ≤ 2000 := by rw [rowsI_len]; exact yl
    have hoff : ∀ (σ : AS) (o b0 : Blk) (j : Nat), 6000000000 ≤ j → (famS σ 5000000000 o [b0] (rowsI y.next)).hp.heap j = σ.hp.heap j := fun σ o b0 j hj => famS_high (by simp only [List.length_cons, List.length_nil]; omega)
    refine .dvalV (c_eqDfa y y hys) (DfAt.view (O := 5000000000) (E := 5000000001) (b := 5000000002) (r := r) ⟨by simp, by simp, fun i x hx => by simp [famS_atN hx]⟩ (zs := [.d y.d]) rfl ⟨trivial, trivial⟩) rfl ?_
    simp
    refine .one (sch [.pur 0, .pur 1, .eff 2 [0], .eff 3 [], .pur 4]) (by kernel_rfl) ?_
    simp
    refine .ddat (c_toDfa a hs) rfl (by simp [Df.d]) ?_
    rintro _ rfl
    simp
    refine .dvalV (c_eqDfa a a hs) (DfAt.view (O := 6000000000) (E := 6000000001) (b := 6000000002) (r := 0) ⟨by simp [hoff], by simp [hoff], fun i x hx => by
      have hoff' := fun σ o b0 => hoff σ o b0 (i + 6000000002) (by omega)
      simp [hoff', famS_atN hx]⟩ (zs := [.d a.d]) rfl ⟨trivial, trivial⟩) rfl ?_
    simp
    refine .lendDf (a := a) (O := 6000000000) (E := 6000000001) (b := 6000000002) (r := 0) (k := 1) a1 (by omega) (by omega) ⟨by simp [hoff], by simp [hoff], fun i x hx => by
      have hoff' := fun σ o b0 => hoff σ o b0 (i + 6000000002) (by omega)
      simp [hoff', famS_atN hx]⟩ ?_
    generalize 1 + tot a.next + a.ends.length = kx
    have hset : ∀ (hp : HP) (x y : Blk) (j : Nat), j < 6000000000 → (setAll hp ((6000000000, x) :: (6000000001, y) :: famH 6000000002 (rowsI (markDf a 1).next))).heap j = hp.heap j := fun hp x y j hj => setDf_off (by omega)
    simp [hset, show ¬ (kx : Int) < 0 by omega]
    refine .flatV (c_eqDfa y y hys) rfl (DfAt.view (O := 5000000000) (E := 5000000001) (b := 5000000002) (r := r) ⟨by simp [hset], by simp [hset], fun i x hx => by
      have hi : i < 999999998 := by have := (List.getElem?_eq_some_iff.1 hx).1; omega
      have hset' := fun hp x y => hset hp x y (i + 5000000002) (by omega)
      simp [hset', famS_atN hx]⟩ (zs := [.d y.d]) rfl ⟨trivial, trivial⟩) (by simp) rfl rfl ?_
    simp [hset]
    refine .lendDf (a := y) (O := 5000000000) (E := 5000000001) (b := 5000000002) (r := r) (k := 1) (by omega) (by omega) (by omega) ⟨by simp [hset], by simp [hset], fun i x hx => by
      have hi : i < 999999998 := by have := (List.getElem?_eq_some_iff.1 hx).1; omega
      have hset' := fun hp x y => hset hp x y (i + 5000000002) (by omega)
      simp [hset', famS_atN hx]⟩ ?_
    have hset2 : ∀ (hp : HP) (x y' : Blk) (j : Nat), j < 5000000000 → (setAll hp ((5000000000, x) :: (5000000001, y') :: famH 5000000002 (rowsI (markDf y 1).next))).heap j = hp.heap j := fun hp x y' j hj => setDf_off (by omega)
    have hheld := c_heldDfa y 1 (by omega) (by omega)
    generalize 1 + tot y.next + y.ends.length = ky at *
    simp [hset, hset2]
    refine .dvalV hheld (DfAt.viewM (O := 5000000000) (E := 5000000001) (b := 5000000002) (r := r) ⟨by simp; exact (setDf_at (by omega)).o, by simp; exact (setDf_at (by omega)).e, fun i x hx => by simp; exact (setDf_at (by omega)).f i x hx⟩ (zs := [iA (1 : Nat)]) rfl ⟨trivial, trivial⟩) rfl ?_
    have hnn : ¬ (ky : Int) < 0 := by omega
    simp [hset, hset2, hnn]
    refine .ddat (c_toDfa a hs) rfl (by simp [Df.d]) ?_
    rintro _ rfl
    simp
    refine .ddat (c_DfaAfter a s h hs') rfl (by simp [Df.d]) ?_
    rintro _ ⟨z, rfl, hzz⟩
    obtain rfl := hzz.uniq hy
    simp [hset, hset2, Df.d]
    refine .dval (c_eqDfa z z hys) rfl (by simp [Df.d]) rfl ?_
    simp [hset, hset2]
    refine .dvalV hheld (DfAt.viewM (O := 5000000000) (E := 5000000001) (b := 5000000002) (r := r) ⟨by simp; exact (setDf_at (by omega)).o, by simp; exact (setDf_at (by omega)).e, fun i x hx => by simp; exact (setDf_at (by omega)).f i x hx⟩ (zs := [iA (1 : Nat)]) rfl ⟨trivial, trivial⟩) rfl ?_
    simp [hset, hset2, hnn]
  · obtain rfl := hy.uniq hw
    refine ⟨⟨by simp, by simp, fun j hj => by simp at hj, rfl, rfl⟩, ?_⟩
    simp [newL, newBs, AV.kp, AV.kpL, AV.ren, AV.renL]
    refine .dval (c_eqDfa ⟨[], []⟩ ⟨[], []⟩ small_nil) rfl (by simp) rfl ?_
    simp
    refine .one (sch [.pur 0, .pur 1, .eff 2 [0], .eff 3 [], .pur 4]) (by kernel_rfl) ?_
    simp
    refine .ddat (c_toDfa a hs) rfl (by simp [Df.d]) ?_
    rintro _ rfl
    simp
    refine .dvalV (c_eqDfa a a hs) (DfAt.view (O := 6000000000) (E := 6000000001) (b := 6000000002) (r := 0) ⟨by simp, by simp, fun i x hx => by simp [famS_atN hx]⟩ (zs := [.d a.d]) rfl ⟨trivial, trivial⟩) rfl ?_
    simp
    refine .lendDf (a := a) (O := 6000000000) (E := 6000000001) (b := 6000000002) (r := 0) (k := 1) a1 (by omega) (by omega) ⟨by simp, by simp, fun i x hx => by simp [famS_atN hx]⟩ ?_
    generalize 1 + tot a.next + a.ends.length = kx
    have hset : ∀ (hp : HP) (x y : Blk) (j : Nat), j < 6000000000 → (setAll hp ((6000000000, x) :: (6000000001, y) :: famH 6000000002 (rowsI (markDf a 1).next))).heap j = hp.heap j := fun hp x y j hj => setDf_off (by omega)
    simp [hset, show ¬ (kx : Int) < 0 by omega]
    refine .flat (fun _ => c_eqDfa ⟨[], []⟩ ⟨[], []⟩ small_nil) rfl (by simp) rfl rfl ?_
    simp [hset]
    refine .dval (c_markDfa0 1) rfl (by simp) rfl ?_
    simp [hset]
    refine .dval (c_heldDfa ⟨[], []⟩ 1 (by simp) (by simp [tot])) rfl (by simp) rfl ?_
    simp [hset, tot]
    refine .ddat (c_toDfa a hs) rfl (by simp [Df.d]) ?_
    rintro _ rfl
    simp
    refine .ddat (c_DfaAfter a s h hs') rfl (by simp [Df.d]) ?_
    rintro _ ⟨z, rfl, hzz⟩
    obtain rfl := hzz.uniq hy
    simp [hset, Df.d]
    refine .dval (c_eqDfa ⟨[], []⟩ ⟨[], []⟩ small_nil) rfl (by simp [Df.d]) rfl ?_
    simp [hset]
    refine .dval (c_heldDfa ⟨[], []⟩ 1 (by simp) (by simp [tot])) rfl (by simp) rfl ?_
    simp [hset, tot]
end Go.Fw
