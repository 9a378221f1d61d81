/- The law about ranks. -/
import Derived.Test.YtmodfeaneggloaaRg
import Derived.Test.YtmodfeaneggloaaOv
import Derived.Test.YtmodfeaneggloaaQa
import Derived.Test.YtmodfeaneggloaaOr
set_option linter.unusedSimpArgs false
set_option linter.unusedVariables false
namespace Go.Fw
open Go Go.Proofs
set_option linter.unusedSectionVars false
set_option linter.unnecessarySimpa false

/-- The letters of a number. -/
theorem lowD_num : ∀ (k : Nat) (v : Int), 0 ≤ v → (lowD k v).length = k ∧ (lowD k v).all isL = true ∧ wv (lowD k v) = v % 3 ^ k
  | 0, v, _ => ⟨rfl, rfl, by simp [lowD, wv]⟩
  | k + 1, v, h => by
    obtain ⟨h1, h2, h3⟩ := lowD_num k v h
    have hp : (0 : Int) < 3 ^ k := Int.pow_pos (by decide)
    have hd : 0 ≤ v / 3 ^ k % 3 ∧ v / 3 ^ k % 3 < 3 := ⟨Int.emod_nonneg _ (by decide), Int.emod_lt_of_pos _ (by decide)⟩
    obtain ⟨b, hb1, hb2, hb3⟩ := ltxt_ex (l := (v / 3 ^ k % 3).toNat) (by omega)
    rw [Int.toNat_of_nonneg hd.1] at hb1 hb3
    have e : lowD (k + 1) v = b :: lowD k v := by simp only [lowD]; rw [hb1]; rfl
    have hwc : ∀ (b : UInt8) (s : List UInt8) (n : Int), (b :: s).foldl (fun n b => 3 * n + ltr b) n = (3 * n + ltr b) * 3 ^ s.length + wv s := by
      intro b s n
      have : ∀ (s : List UInt8) (m : Int), s.foldl (fun n b => 3 * n + ltr b) m = m * 3 ^ s.length + wv s := by
        intro s
        induction s with
        | nil => intro m; simp [wv]
        | cons c s ih =>
          intro m
          have i1 := ih (3 * m + ltr c)
          have i2 := ih (3 * 0 + ltr c)
          unfold wv
          simp only [List.foldl_cons, List.length_cons]
          rw [i1, i2, Int.pow_succ]
          generalize (3 : Int) ^ s.length = P
          have : (3 * m + ltr c) * P = m * (P * 3) + (3 * 0 + ltr c) * P := by
            rw [Int.add_mul, Int.add_mul]; simp; rw [Int.mul_comm 3 m, Int.mul_assoc, Int.mul_comm 3 P]
          omega
      exact this s _
    have hw : wv (b :: lowD k v) = v / 3 ^ k % 3 * 3 ^ k + v % 3 ^ k := by
      have := hwc b (lowD k v) 0
      unfold wv at this ⊢
      rw [this, h1, hb3]
      simp only [Int.mul_zero, Int.zero_add]
      have h3' := h3
      unfold wv at h3'
      rw [h3']
    refine ⟨by rw [e]; simp [h1], by rw [e]; simp only [List.all_cons, hb2, h2]; rfl, ?_⟩
    rw [e, hw, Int.pow_succ]
    have m1 := Int.emod_add_mul_ediv v (3 ^ k)
    have m2 := Int.emod_add_mul_ediv (v / 3 ^ k) 3
    have m3 : v % (3 ^ k * 3) = v % 3 ^ k + 3 ^ k * (v / 3 ^ k % 3) := by
      rw [Int.emod_def v (3 ^ k * 3), Int.emod_def v (3 ^ k), Int.emod_def (v / 3 ^ k) 3, ← Int.ediv_ediv_of_nonneg (by omega), Int.mul_sub, Int.mul_assoc]
      omega
    rw [m3, Int.mul_comm (3 ^ k)]; omega
theorem valL_wv : ∀ s : List UInt8, s.all isL = true → (valL (s.map ltr) : Int) = wv s := by
  intro s
  induction s using snocInd with
  | nil => intro _; rfl
  | snoc s b ih =>
    intro h
    rw [List.all_append, Bool.and_eq_true] at h
    have hb := ltr_of (b := b) (by simpa using h.2)
    have hv : ∀ (w : List Int) (c : Int), valL (w ++ [c]) = 3 * valL w + c.toNat := by
      intro w
      induction w with
      | nil => intro c; simp [valL]
      | cons d w ih2 =>
        intro c
        simp only [List.cons_append, valL, ih2, List.length_append, List.length_singleton, Nat.pow_succ]
        have : d.toNat * (3 ^ w.length * 3) = 3 * (d.toNat * 3 ^ w.length) := by rw [← Nat.mul_assoc, Nat.mul_comm]
        omega
    rw [List.map_append, List.map_cons, List.map_nil, hv, wv_snoc, ← ih h.1]
    push_cast
    omega
theorem csum_shorter : ∀ n : Nat, (csum n (fun _ => true) : Int) = shorterN n
  | 0 => rfl
  | n + 1 => by
    have h1 := csum_all n
    have h2 := csum_all (n + 1)
    have h3 := shorterN_eq n
    have h4 := shorterN_eq (n + 1)
    have e : ((3 ^ n : Nat) : Int) = (3 : Int) ^ n := by simp
    have e2 : ((3 ^ (n + 1) : Nat) : Int) = (3 : Int) ^ (n + 1) := by simp
    omega
theorem numL_wv {s : List UInt8} (h : s.all isL = true) : (numL (s.map ltr) : Int) = shorterN s.length + wv s := by
  rw [numL_eq]; push_cast; rw [csum_shorter, valL_wv s h]; simp
theorem rank_is {s : List UInt8} (h : wordOk s = true) : rank s = numL (s.map ltr) := by rw [rank, h, numL_wv (letters_all h)]; rfl
theorem wordAt_num {m : Int} (h0 : 0 ≤ m) (h9 : m < shorterN 9) : wordOk (wordAt m) = true ∧ (numL ((wordAt m).map ltr) : Int) = m := by
  have hex : ∃ k, k < 9 ∧ shorterN k ≤ m ∧ m < shorterN (k + 1) := by
    have : ∀ n, m < shorterN n → ∃ k, k < n ∧ shorterN k ≤ m ∧ m < shorterN (k + 1) := by
      intro n
      induction n with
      | zero => intro h; simp [shorterN] at h; omega
      | succ n ih =>
        intro h
        by_cases hc : m < shorterN n
        · obtain ⟨k, a1, a2, a3⟩ := ih hc
          exact ⟨k, by omega, a2, a3⟩
        · exact ⟨n, by omega, by omega, h⟩
    exact this 9 h9
  obtain ⟨k, hk, h1, h2⟩ := hex
  have hwl := wlen_is hk h2 h1
  obtain ⟨l1, l2, l3⟩ := lowD_num k (m - shorterN k) (by omega)
  have e : wordAt m = lowD k (m - shorterN k) := by unfold wordAt; rw [hwl]
  rw [e]
  refine ⟨by simp only [wordOk, lettersOk, Bool.and_eq_true, decide_eq_true_eq]; exact ⟨l2, by omega⟩, ?_⟩
  rw [numL_wv l2, l1, l3, Int.emod_eq_of_lt (by omega) (by rw [shorterN] at h2; omega)]
  omega

set_option maxRecDepth 100000 in
theorem c_DrawRankWord (code : List UInt8) : TCalls Try.prog 24 [.d (.list (codeD code))] fun y => ∃ (a : Df) (s : List UInt8), y = [a.d, sD s] ∧ a.tiny ∧ s.length ≤ 9 := by
  refine tcalls_intro Ty.mixed Try.func24 rfl rfl rfl [] (by kernel_rfl) (by simp) ?_
  simp
  refine .fresh 700 (c_l20Open code) (by omega) (by simp) rfl (by simp) ?_
  rintro _ ⟨code', rfl, hc⟩
  simp [rdB]
  refine .lend (b := rdB (codeD code') 0) (d_l20Finite code' (by omega) 0 14 (by omega) (by omega) (by omega)) (by simp [rdB]) (by simp) rfl (by simp) ?_
  rintro _ _ ⟨q, rfl, h1, h2, a, rfl, ha⟩
  simp [rdB, Df.d]
  refine .one (sch [.pur 0, .pur 1, .eff 2 [0], .eff 3 [], .pur 4]) (by kernel_rfl) ?_
  simp
  refine .lend (b := rdB (codeD code') q) (d_l20Word code' (by omega) q 14 (by omega) (by omega) (by omega)) (by simp [rdB]) (by simp) rfl (by simp) ?_
  rintro _ _ ⟨q2, rfl, h3, h4, s, rfl, hs⟩
  simp [rdB]
  exact ⟨a, s, ⟨⟨rfl, rfl⟩, rfl⟩, ha, by omega⟩

def allDf : Df := ⟨[[0, 0, 0]], [true]⟩
theorem allDf_ok : okDf allDf = true := by decide
theorem allDf_lang : ∀ {w : List Int}, l3 w → allDf.lang 0 w = true
  | [], _ => rfl
  | c :: w, h => by
    rw [l3_cons] at h
    have hg : allDf.go 0 c = 0 := by
      obtain ⟨h1, _⟩ := h
      obtain rfl | rfl | rfl : c = 0 ∨ c = 1 ∨ c = 2 := by omega
      all_goals rfl
    show allDf.lang (allDf.go 0 c) w = true
    rw [hg]; exact allDf_lang h.2
theorem rank_congr {f g : List Int → Bool} (h : ∀ w, l3 w → f w = g w) : ∀ {w : List Int}, l3 w → rankL f w = rankL g w := by
  intro w hw
  have h1 : ∀ n, csum n f = csum n g := by
    intro n
    induction n with
    | zero => rfl
    | succ n ih => simp only [csum, ih, cnt_congr n f g fun w hw _ => h w hw]
  have h2 : ∀ (w : List Int) (f g : List Int → Bool), l3 w → (∀ v, l3 v → f v = g v) → lexr f w = lexr g w := by
    intro w
    induction w with
    | nil => intro f g _ _; rfl
    | cons c w ih =>
      intro f g hw h
      rw [l3_cons] at hw
      have e : ∀ c : Int, 0 ≤ c ∧ c < 3 → ∀ v, l3 v → f (c :: v) = g (c :: v) := fun c hc v hv => h (c :: v) (l3_cons.2 ⟨hc, hv⟩)
      simp only [lexr]
      rw [ih (fun v => f (c :: v)) (fun v => g (c :: v)) hw.2 (e c hw.1)]
      congr 2
      refine List.map_congr_left fun l hl => ?_
      have : l < c.toNat := List.mem_range.1 hl
      exact cnt_congr _ _ _ fun v hv _ => e l (by omega) v hv
  rw [rankL, rankL, h1, h2 w f g hw h]

set_option maxRecDepth 100000 in
theorem c_FnRankWord (code : List UInt8) (hl : code.length ≤ 9223372036854775807) : DCalls Try.prog 4 [.d (.list (codeD code))] fun y => y = .bool true := by
  refine dcalls_intro Ty.mixed Try.func4 rfl rfl rfl [] (by kernel_rfl) (by simp) ?_
  simp [codeD_lenD]
  intro h20
  refine .tdat (c_DrawRankWord code) rfl (by simp) ?_
  rintro _ ⟨a, s, rfl, ha, hs⟩
  have hf := ha.fine
  simp [Df.d]
  refine .dval (c_RankWord a s hf (by omega)) rfl (by simp [Df.d]) rfl ?_
  simp
  refine .dval (c_sRankWord a s hf (by omega)) rfl (by simp [Df.d]) rfl ?_
  simp
  refine ⟨fun hneg => ?_, fun hpos => ?_⟩
  · have : rkDf a s = -1 := by
      unfold rkDf at hneg ⊢
      split at hneg
      · omega
      · rename_i h; rw [if_neg h]
    rw [this]
    simp
    refine .flat (fun _ => c_alive) rfl (by simp) rfl (by simp) ?_
    simp
  · have hok : okDf a = true ∧ wordOk s = true := by
      unfold rkDf at hpos
      split at hpos
      · rename_i h; simpa using h
      · omega
    obtain ⟨h1, h2⟩ := hok
    have hw := letters_all h2
    have hl3 := l3_ltr' hw
    have hl8 := letters_len h2
    have hrk : rkDf a s = (rankL (a.lang 0) (s.map ltr) : Int) := by simp [rkDf, h1, h2]
    have hra : rkDf allDf s = rank s := by
      rw [rank_is h2, rkDf, allDf_ok, h2]
      simp [rank_congr (fun w hw => allDf_lang hw) hl3, rank_all hl3]
    have hrs := rank_is h2
    have hkb : (numL (s.map ltr) : Int) < 9841 := by
      have := numL_len hl3 (v := List.replicate 9 0) (by simp; omega)
      have e : numL (List.replicate 9 0) = 9841 := by decide
      omega
    have hwr : IntKind.i64.wrap (rank s + 1) = rank s + 1 := wrap64 (by omega) (by omega)
    refine ⟨rfl, ?_⟩
    refine .dval (c_WordRank s (by omega)) rfl (by simp) rfl ?_
    simp [hwr]
    refine .tdat (c_WordAt (rank s + 1) (by omega)) rfl (by simp) ?_
    have hnext : ∀ t : List UInt8, wordOk t = true → (numL (t.map ltr) : Int) = rank s + 1 → rkDf a t = rkDf a s + (if a.acc s then 1 else 0) := fun t ht he => by
      have := rank_next (f := a.lang 0) hl3 (l3_ltr' (letters_all ht)) (by omega)
      rw [hrk, rkDf, h1, ht]
      simp [this]
      rw [acc_lang]
      cases a.lang 0 (s.map ltr) <;> simp
    have hacc := accDf_of h1 h2
    intro r hr
    have h9 : shorterN 9 = 9841 := by decide
    obtain ⟨t, ok, rfl, ht⟩ : ∃ (t : List UInt8) (ok : Bool), r = [sD t, .bool ok] ∧ (ok = true → wordOk t = true ∧ (numL (t.map ltr) : Int) = rank s + 1) := by
      by_cases hc : 0 ≤ rank s + 1 ∧ rank s + 1 < shorterN 9
      · rw [if_pos hc] at hr
        exact ⟨_, _, hr, fun _ => wordAt_num hc.1 hc.2⟩
      · rw [if_neg hc] at hr
        exact ⟨_, _, hr, fun h => by cases h⟩
    have hallf : allDf.fine := fine_of_okDf allDf_ok
    have hnx := hnext t
    rw [hrk] at hnx
    simp
    refine .dval (c_DfaAccepts a s hf (by omega)) rfl (by simp [Df.d]) rfl ?_
    rw [hacc]
    cases hA : a.acc s
    all_goals
      simp
      refine .dvalE (c_RankWord allDf s hallf (by omega)) rfl (by simp [allDf, Df.d]) (by simp) rfl ?_
      rw [hra]
      simp
      refine .dval (c_WordRank s (by omega)) rfl (by simp) rfl ?_
      simp
      refine .flat (fun hg => c_RankWord a t hf (by have := letters_len (ht (by simpa using hg)).1; omega)) rfl (by simp [Df.d]) rfl (by simp) ?_
      simp
      cases ok with
      | false => simp
      | true =>
        obtain ⟨t1, t2⟩ := ht rfl
        have e := hnx t1 t2
        rw [hA] at e
        simp at e
        rw [e, hrk]
        have hb := rank_bd (a.lang 0) hl3 (by simp; omega)
        simp
        try exact (wrap64 (by omega) (by omega)).symm
end Go.Fw
