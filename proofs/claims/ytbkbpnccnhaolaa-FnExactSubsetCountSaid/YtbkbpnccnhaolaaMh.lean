/- Sets of states in rows of their own; the laws that say what is exact of them. -/
import Derived.Test.YtbkbpnccnhaolaaMf
set_option linter.unusedSimpArgs false
set_option linter.unusedVariables false
namespace Go.Fw
open Go Go.Proofs

set_option maxRecDepth 100000 in
theorem c_setList (q : Nat × Nat) (xs : List Bool) (hq : BitsOf q xs) : SCalls Try.prog 79 [.d (stD q.1 q.2)] fun sz ys => sz = 1 ∧ ys = (listE xs).map iD := by
  refine scalls_intro Ty.mixed Try.func79 rfl rfl rfl [1] (by kernel_rfl) (by simp) ?_
  simp [stD]
  refine LoopVC.wk (Wk.adoptSl 3 301 1 (by simp) (by simp)) ?_
  refine LoopVC.at { i : Nat // i ≤ 128 } (fun i => [(1, .dp [.d (.int .u64 q.1), .d (.int .u64 q.2)]), (3, .sl 1 301 0 (listE (xs.take i.1)).length), (5, iA i.1)]) (fun i => [(301, .ar 1 ((listE (xs.take i.1)).map iD))]) [301] (fun i => 128 - i.1) ⟨0, by simp⟩ (by simp [listE]) (by simp [listE]) ?_
  rintro ⟨i, hi⟩
  have hlen := hq.len
  rcases Nat.lt_or_ge i 128 with h | h
  · have hb := hq.bit i h
    have hll : (listE (xs.take i)).length ≤ i := by
      have := List.length_filter_le (fun k => (xs.take i).getD k false) (List.range (xs.take i).length)
      simp only [listE, List.length_map]
      simp at this ⊢; omega
    have hsn : listE (xs.take (i + 1)) = listE (xs.take i) ++ (if xs.getD i false then [(i : Int)] else []) := by
      rcases Nat.lt_or_ge i xs.length with h2 | h2
      · rw [listE_snoc xs h2]; simp [h2]
      · rw [List.take_of_length_le (by omega), List.take_of_length_le h2]
        simp [List.getElem?_eq_none h2]
    generalize listE (xs.take i) = ls at *
    generalize xs.getD i false = b at *
    simp [show (i : Int) < 128 by omega]
    refine .dval (c_has q.1 q.2 hq.lt1 hq.lt2 i h) rfl (by simp [stD]) rfl ?_
    rw [hb]
    cases b with
    | true =>
      simp
      refine ⟨by omega, i + 1, .mk (by simp [hsn]; exact wrap64 (by omega) (by omega)) (by simp [hsn]), h, by omega⟩
    | false =>
      simp
      refine ⟨i + 1, .mk (by simp [hsn]; exact wrap64 (by omega) (by omega)) (by simp [hsn]), h, by omega⟩
  · have : i = 128 := by omega
    subst this
    simp [List.take_of_length_le hlen]

/-! ### Copies in rows of their own -/

theorem c_toIntSF (xs : List Int) (hlen : xs.length ≤ 1048576) : SCalls Try.prog 25 [.d (intsD xs)] fun sz ys => sz = 1 ∧ ys = xs.map iD := by
  refine scalls_intro Ty.mixed Try.func25 rfl rfl rfl [] (by kernel_rfl) (by simp) ?_
  simp
  refine ⟨by omega, ?_⟩
  refine LoopVC.at { i : Nat // i ≤ xs.length } (fun i => [(0, .d (intsD xs)), (3, .sl 1 700 0 xs.length), (4, iA i.1)]) (fun i => [(700, .ar 1 (mixL (xs.map iD) (iD 0) i.1))]) [700] (fun i => xs.length - i.1) ⟨0, by simp⟩ (by simp) (by simp [mixL_zero]) ?_
  rintro ⟨i, hi⟩
  rcases Nat.lt_or_ge i xs.length with h | h
  · have hl : (mixL (xs.map iD) (iD 0) i).length = xs.length := by rw [mixL_len (by simpa using hi)]; simp
    simp [h, hl]
    refine ⟨i + 1, .mk (by simp; exact wrap64 (by omega) (by omega)) (by simp; rw [← mixL_set (by simpa using h)]; simp), h, by omega⟩
  · simp [Nat.not_lt.2 h]
    rw [mixL_all (by simpa using h)]
    simp
theorem c_toMoveSF (ms : List Mv) (hlen : ms.length ≤ 1048576) : SCalls Try.prog 74 [.d (.list (ms.map Mv.d))] fun sz ys => sz = 3 ∧ ys = ms.map Mv.d := by
  refine scalls_intro Ty.mixed Try.func74 rfl rfl rfl [] (by kernel_rfl) (by simp) ?_
  simp
  refine ⟨by omega, ?_⟩
  refine LoopVC.at { i : Nat // i ≤ ms.length } (fun i => [(0, .d (.list (ms.map Mv.d))), (3, .sl 3 700 0 ms.length), (4, iA i.1)]) (fun i => [(700, .ar 3 (mixL (ms.map Mv.d) (.agg [iD 0, iD 0, iD 0]) i.1))]) [700] (fun i => ms.length - i.1) ⟨0, by simp⟩ (by simp) (by simp [mixL_zero]) ?_
  rintro ⟨i, hi⟩
  rcases Nat.lt_or_ge i ms.length with h | h
  · have hl : (mixL (ms.map Mv.d) (.agg [iD 0, iD 0, iD 0]) i).length = ms.length := by rw [mixL_len (by simpa using hi)]; simp
    have hc := c_toMove ms[i]
    simp [h, hl, Mv.d]
    refine .ddat hc rfl (by simp [Mv.d]) ?_
    rintro _ rfl
    simp [h, hl, Mv.d]
    refine ⟨i + 1, .mk (by simp; exact wrap64 (by omega) (by omega)) (by simp; rw [← mixL_set (by simpa using h)]; simp [Mv.d]), h, by omega⟩
  · simp [Nat.not_lt.2 h]
    rw [mixL_all (by simpa using h)]
    simp
theorem c_toNfaF (a : Na) (h : a.small) : FCalls Try.prog 24 [.d a.d] fun x res => x = naAg a 601 602 603 ∧ res = naRes a 601 602 603 := by
  refine fcalls_intro Ty.mixed Try.func24 rfl rfl rfl [1] (by kernel_rfl) (by simp) ?_
  simp [Na.d]
  refine .freshS 601 (c_toMoveSF a.ms h.ms) (by omega) (by simp) rfl (by simp) ?_
  rintro _ _ ⟨rfl, rfl⟩
  simp
  refine .freshS 602 (c_toIntSF a.fs h.fs) (by omega) (by simp) rfl (by simp) ?_
  rintro _ _ ⟨rfl, rfl⟩
  simp
  refine .freshS 603 (c_toIntSF a.es h.es) (by omega) (by simp) rfl (by simp) ?_
  rintro _ _ ⟨rfl, rfl⟩
  simp [naAg, naRes, keepP, lookH]
  rintro i b (⟨rfl, rfl⟩ | ⟨rfl, rfl⟩ | ⟨rfl, rfl⟩) <;> simp

/-! ### What the program computes, in a row of its own -/

/-- A row of its own, or nil. -/
def rowAV (ok : Bool) (n : Nat) : AV := if ok then .sl 1 901 0 n else .nl
def rowRes (ok : Bool) (xs : List Int) : List (Nat × Blk) := if ok then [(901, .ar 1 (xs.map iD))] else []

def closeOk (a : Na) (f : List Int) : Bool := okNa a && stOk a.n f
def closeNa (a : Na) (f : List Int) : List Int := listE (closeE a.ms (flagsE a.n.toNat f))
theorem c_NfaClose (a : Na) (f : List Int) (h : a.fine) (hf : f.length ≤ 9223372036854775807) : FCalls Try.prog 26 [.d a.d, .d (intsD f)] fun x res => x = rowAV (closeOk a f) (closeNa a f).length ∧ res = rowRes (closeOk a f) (closeNa a f) := by
  refine fcalls_intro Ty.mixed Try.func26 rfl rfl rfl [2] (by kernel_rfl) (by simp) ?_
  simp [Na.d]
  refine .dval (c_NfaValid a h.ms h.fs h.es) rfl (by simp [Na.d]) rfl ?_
  simp
  refine .flat (fun _ => c_areStates f a.n hf) rfl (by simp) rfl (by simp) ?_
  simp
  refine ⟨fun hno => ?_, fun v1 v2 => ?_⟩
  · have : closeOk a f = false := by rcases hno with hno | hno <;> simp [closeOk, hno]
    simp [this, rowAV, rowRes]
  · have hok : closeOk a f = true := by simp [closeOk, v1, v2]
    obtain ⟨k0, k1, k2, k3, k4, k5, k6⟩ := okNa_of v1
    have hst := stOk_mem (n := a.n) (by omega) v2
    refine .one (sch [.pur 0, .pur 1, .eff 2 [0], .eff 3 [], .eff 4 [], .pur 5]) (by kernel_rfl) ?_
    simp
    refine .ddat (c_setOf f hf (fun x hx => by have := hst x hx; omega)) rfl (by simp) ?_
    rintro _ rfl
    simp
    refine .ddat (c_close a k1 k5 (by omega) _ _ (bits_of_list (n := a.n.toNat) (by omega) (fun x hx => by have := hst x hx; omega)) (flagsE_len _ _)) rfl (by simp [Na.d]) ?_
    rintro _ ⟨q, rfl, hq⟩
    simp
    refine .freshS 901 (c_setList q _ hq) (by omega) (by simp) rfl (by simp) ?_
    rintro _ _ ⟨rfl, rfl⟩
    simp [hok, rowAV, rowRes, closeNa, keepP, lookH]

def stepOk (a : Na) (f : List Int) (c : Int) : Bool := okNa a && stOk a.n f && inR c 0 2
def stepNa (a : Na) (f : List Int) (c : Int) : List Int := listE (nextE a.n.toNat a.ms (flagsE a.n.toNat f) c)
theorem c_NfaStep (a : Na) (f : List Int) (c : Int) (h : a.fine) (hf : f.length ≤ 9223372036854775807) : FCalls Try.prog 33 [.d a.d, .d (intsD f), iA c] fun x res => x = rowAV (stepOk a f c) (stepNa a f c).length ∧ res = rowRes (stepOk a f c) (stepNa a f c) := by
  refine fcalls_intro Ty.mixed Try.func33 rfl rfl rfl [3] (by kernel_rfl) (by simp) ?_
  simp [Na.d]
  refine .dval (c_NfaValid a h.ms h.fs h.es) rfl (by simp [Na.d]) rfl ?_
  simp
  refine .flat (fun _ => c_areStates f a.n hf) rfl (by simp) rfl (by simp) ?_
  simp
  refine .flat (fun _ => c_isLetter c) rfl (by simp) rfl (by simp) ?_
  simp
  refine ⟨fun hno => ?_, fun v1 v2 v3 => ?_⟩
  · have : stepOk a f c = false := by rcases hno with (hno | hno) | hno <;> simp [stepOk, hno]
    simp [this, rowAV, rowRes]
  · have hok : stepOk a f c = true := by simp [stepOk, v1, v2, v3]
    obtain ⟨k0, k1, k2, k3, k4, k5, k6⟩ := okNa_of v1
    have hst := stOk_mem (n := a.n) (by omega) v2
    refine .one (sch [.pur 0, .pur 1, .pur 3, .eff 2 [0, 3], .eff 4 [], .eff 5 [], .pur 6]) (by kernel_rfl) ?_
    simp
    refine .ddat (c_setOf f hf (fun x hx => by have := hst x hx; omega)) rfl (by simp) ?_
    rintro _ rfl
    simp
    refine .ddat (c_step a k1 k5 (by omega) _ _ (bits_of_list (n := a.n.toNat) (by omega) (fun x hx => by have := hst x hx; omega)) (flagsE_len _ _) c) rfl (by simp [Na.d]) ?_
    rintro _ ⟨q, rfl, hq⟩
    simp
    refine .freshS 901 (c_setList q _ hq) (by omega) (by simp) rfl (by simp) ?_
    rintro _ _ ⟨rfl, rfl⟩
    simp [hok, rowAV, rowRes, stepNa, keepP, lookH]

def runOk (a : Na) (s : List UInt8) : Bool := okNa a && wordOk s
theorem c_NfaRun (a : Na) (s : List UInt8) (h : a.fine) (hs : s.length ≤ 9223372036854775807) : FCalls Try.prog 39 [.d a.d, sA s] fun x res => x = rowAV (runOk a s) (listE (runE a s)).length ∧ res = rowRes (runOk a s) (listE (runE a s)) := by
  refine fcalls_intro Ty.mixed Try.func39 rfl rfl rfl [2] (by kernel_rfl) (by simp) ?_
  simp [Na.d]
  refine .dval (c_NfaValid a h.ms h.fs h.es) rfl (by simp [Na.d]) rfl ?_
  simp
  refine .flat (fun _ => c_WordValid s hs) rfl (by simp) rfl (by simp) ?_
  simp
  refine ⟨fun hno => ?_, fun v1 v2 => ?_⟩
  · have : runOk a s = false := by rcases hno with hno | hno <;> simp [runOk, hno]
    simp [this, rowAV, rowRes]
  · have hok : runOk a s = true := by simp [runOk, v1, v2]
    have hwl := letters_len v2
    refine .ddat (c_run a s v1 h.fs (by omega)) rfl (by simp [Na.d]) ?_
    rintro _ ⟨q, rfl, hq⟩
    simp
    refine .freshS 901 (c_setList q _ hq) (by omega) (by simp) rfl (by simp) ?_
    rintro _ _ ⟨rfl, rfl⟩
    simp [hok, rowAV, rowRes, keepP, lookH]

/-! ### The specification's -/

theorem c_sNfaClose (a : Na) (f : List Int) (h : a.fine) (hf : f.length ≤ 9223372036854775807) : DCalls Try.prog 23 [.d a.d, .d (intsD f)] fun r => r = intsD (if closeOk a f then closeNa a f else []) := by
  refine dcalls_intro Ty.mixed Try.func23 rfl rfl rfl [2] (by kernel_rfl) (by simp) ?_
  simp [Na.d]
  refine .dval (c_sNfaValid a h.ms h.fs h.es) rfl (by simp [Na.d]) rfl ?_
  simp
  refine .flat (fun _ => c_l8Set f a.n hf) rfl (by simp) rfl (by simp) ?_
  simp
  refine ⟨fun hno => ?_, fun v1 v2 => ?_⟩
  · have : closeOk a f = false := by rcases hno with hno | hno <;> simp [closeOk, hno]
    simp [this]
  · have hok : closeOk a f = true := by simp [closeOk, v1, v2]
    obtain ⟨k0, k1, k2, k3, k4, k5, k6⟩ := okNa_of v1
    have hst := stOk_mem (n := a.n) (by omega) v2
    refine .one (sch [.pur 0, .pur 1, .pur 2, .pur 3, .eff 4 [0], .eff 5 [], .eff 6 [], .pur 7]) (by kernel_rfl) ?_
    simp
    refine .ddat (c_l8Flags f a.n ⟨k0, k1⟩ hst hf) rfl (by simp) ?_
    rintro _ rfl
    simp
    refine .ddat (c_l8Close a k1 k5 (by omega) _ (flagsE_len _ _)) rfl (by simp [Na.d]) ?_
    rintro _ rfl
    simp
    refine .ddat (c_l8List _ (by rw [closeE_len, flagsE_len]; omega)) rfl (by simp) ?_
    rintro _ rfl
    simp [hok, closeNa]
end Go.Fw
