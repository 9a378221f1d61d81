/- Automata with choices: validity, and the empty word. -/
import Derived.Test.YtbkbpnccnhaolaaLp
set_option linter.unusedSimpArgs false
set_option linter.unusedVariables false
namespace Go.Fw
open Go Go.Proofs

def Mv.bad (n : Int) (m : Mv) : Bool := !inR m.f 0 (IntKind.i64.wrap (n - 1)) || !inR m.t 0 (IntKind.i64.wrap (n - 1)) || !inR m.l (-1) 2

theorem c_NV1 (m : Mv) (n : Int) (x y z : AV) : DCalls Try.prog 117 [.d m.d, .dp [iA n, x, y, z]] fun r => r = .bool (m.bad n) := by
  refine dcalls_intro Ty.mixed Try.func117 rfl rfl rfl [2] (by kernel_rfl) (by simp) ?_
  simp [Mv.d]
  refine .dval (c_within _ _ _) rfl (by simp) rfl ?_
  simp
  refine .flat (fun _ => c_within _ _ _) rfl (by simp) rfl (by simp) ?_
  simp
  refine .flat (fun _ => c_within _ _ _) rfl (by simp) rfl (by simp) ?_
  simp [Mv.bad]

theorem c_idxMove (rs : List Mv) (S : List D → (D → Prop) → Prop) (p : Mv → Bool) (hS : ∀ x ∈ rs, ∀ K : D → Prop, K (.bool (p x)) → S [x.d] K) (hlen : rs.length ≤ 9223372036854775807) :
    DCalls Try.prog 140 [.d (.list (rs.map Mv.d)), .clo S] fun y => y = iD (idxI p rs) := by
  refine dcalls_intro Ty.mixed Try.func140 rfl rfl rfl [] (by kernel_rfl) (by simp) ?_
  simp
  refine LoopVC.at { i : Nat // i ≤ rs.length ∧ ∀ j (h : j < rs.length), j < i → p rs[j] = false } (fun i => [(0, .d (.list (rs.map Mv.d))), (1, .clo S), (7, iA rs.length), (8, iA i.1)]) (fun _ => []) [] (fun i => rs.length - i.1) ⟨0, by simp⟩ (by simp) (by simp) ?_
  rintro ⟨i, hi, hp⟩
  rcases Nat.lt_or_ge i rs.length with h | h
  · simp [h, Mv.d]
    refine hS rs[i] (List.getElem_mem h) _ ?_
    simp
    refine ⟨fun ht => (idxI_found h hp ht).symm, fun hf => ⟨i + 1, .mk (by simp; exact wrap64 (by omega) (by omega)) (by simp), ⟨h, upto_succ hp h hf⟩, by omega⟩⟩
  · simp [Nat.not_lt.2 h]
    exact (idxI_none h hp).symm
theorem c_hasMove (rs : List Mv) (S : List D → (D → Prop) → Prop) (p : Mv → Bool) (hS : ∀ x ∈ rs, ∀ K : D → Prop, K (.bool (p x)) → S [x.d] K) (hlen : rs.length ≤ 9223372036854775807) :
    DCalls Try.prog 116 [.d (.list (rs.map Mv.d)), .clo S] fun y => y = .bool (rs.any p) := by
  refine dcalls_intro Ty.mixed Try.func116 rfl rfl rfl [] (by kernel_rfl) (by simp) ?_
  simp
  refine .dval (c_idxMove rs S p hS hlen) rfl (by simp) rfl ?_
  simp
  exact idxI_any p rs

/-- Numbers of states, ascending: at this place. -/
def stAt (w : Int) (xs : List Int) (i : Nat) : Bool := inR (xs.getD i 0) 0 w && (decide (i = 0) || decide (xs.getD (i - 1) 0 < xs.getD i 0))
def stOk (n : Int) (xs : List Int) : Bool := (List.range xs.length).all (stAt (IntKind.i64.wrap (n - 1)) xs)
theorem stOk_false {n : Int} {xs : List Int} {i : Nat} (hi : i < xs.length) (h : stAt (IntKind.i64.wrap (n - 1)) xs i = false) : stOk n xs = false := by
  rw [stOk, List.all_eq_false]; exact ⟨i, List.mem_range.2 hi, by simp [h]⟩

theorem c_areStates (xs : List Int) (n : Int) (hl : xs.length ≤ 9223372036854775807) : DCalls Try.prog 76 [.d (intsD xs), iA n] fun y => y = .bool (stOk n xs) := by
  refine dcalls_intro Ty.mixed Try.func76 rfl rfl rfl [] (by kernel_rfl) (by simp) ?_
  simp
  refine LoopVC.at { i : Nat // i ≤ xs.length ∧ ∀ j, j < xs.length → j < i → stAt (IntKind.i64.wrap (n - 1)) xs j = true } (fun i => [(0, .d (intsD xs)), (1, iA n), (7, .d (intsD xs)), (8, iA xs.length), (9, iA i.1)]) (fun _ => []) [] (fun i => xs.length - i.1) ⟨0, by simp⟩ (by simp) (by simp) ?_
  rintro ⟨i, hi, hp⟩
  rcases Nat.lt_or_ge i xs.length with h | h
  · have e1 := getD_row (xs := xs) (i := i) 0 h
    have hnx : stAt (IntKind.i64.wrap (n - 1)) xs i = true → ∀ j, j < xs.length → j < i + 1 → stAt (IntKind.i64.wrap (n - 1)) xs j = true := fun hr j hj hji => by
      rcases Nat.lt_or_ge j i with h2 | h2
      · exact hp j hj h2
      · have : j = i := by omega
        subst this; exact hr
    have hfl := stOk_false (n := n) h
    simp [h]
    refine .dval (c_within _ _ _) rfl (by simp) rfl ?_
    rcases Nat.eq_zero_or_pos i with h0 | h0
    · subst h0
      have hw0 : IntKind.i64.wrap (-1) = -1 := by decide
      have est : stAt (IntKind.i64.wrap (n - 1)) xs 0 = inR xs[0] 0 (IntKind.i64.wrap (n - 1)) := by simp [stAt, h]
      rw [est] at hfl hnx
      simp [hw0, h]
      exact ⟨hfl, fun hA => ⟨1, .mk (by simp; exact wrap64 (by omega) (by omega)) (by simp), ⟨h, hnx hA⟩, by omega⟩⟩
    · have hw : IntKind.i64.wrap ((i : Int) - 1) = ((i - 1 : Nat) : Int) := by rw [wrap64 (by omega) (by omega)]; omega
      have est : stAt (IntKind.i64.wrap (n - 1)) xs i = (inR xs[i] 0 (IntKind.i64.wrap (n - 1)) && decide (xs[i - 1] < xs[i])) := by
        simp [stAt, h, show i - 1 < xs.length by omega, show i ≠ 0 by omega]
      rw [est] at hfl hnx
      simp [h0, hw, show i - 1 < xs.length by omega]
      refine ⟨fun hb => hfl ?_, fun hA hB => ⟨i + 1, .mk (by simp; exact wrap64 (by omega) (by omega)) (by simp), ⟨h, hnx ?_⟩, by omega⟩⟩
      · rcases hb with hb | hb
        · simp [hb]
        · simp [Int.not_lt.2 hb]
      · simp [hA, hB]
  · have : stOk n xs = true := by
      rw [stOk, List.all_eq_true]; intro j hj; exact hp j (List.mem_range.1 hj) (by have := List.mem_range.1 hj; omega)
    simp [Nat.not_lt.2 h, this]

def okNa (a : Na) : Bool := inR a.n 0 40 && decide ((a.ms.length : Int) ≤ 400) && stOk a.n a.fs && stOk a.n a.es && !a.ms.any (Mv.bad a.n)
theorem c_NfaValid (a : Na) (h1 : a.ms.length ≤ 9223372036854775807) (h2 : a.fs.length ≤ 9223372036854775807) (h3 : a.es.length ≤ 9223372036854775807) : DCalls Try.prog 75 [.d a.d] fun y => y = .bool (okNa a) := by
  refine dcalls_intro Ty.mixed Try.func75 rfl rfl rfl [1] (by kernel_rfl) (by simp) ?_
  simp [Na.d]
  refine .dval (c_within _ _ _) rfl (by simp) rfl ?_
  simp
  refine .flat (fun _ => c_areStates a.fs a.n h2) rfl (by simp) rfl (by simp) ?_
  simp
  refine .flat (fun _ => c_areStates a.es a.n h3) rfl (by simp) rfl (by simp) ?_
  simp
  refine ⟨fun hno => ?_, fun k1 k2 k3 k4 => ?_⟩
  · simp only [okNa]
    rcases hno with ((hno | hno) | hno) | hno
    · simp [hno]
    · simp [Int.not_le.2 hno]
    · simp [hno]
    · simp [hno]
  · refine .dval (c_hasMove a.ms _ (Mv.bad a.n) ?_ h1) rfl (by simp) rfl ?_
    · intro x _ K hK
      exact ⟨_, c_NV1 x a.n _ _ _, by rintro r rfl; rfl, by rintro r rfl; exact hK⟩
    simp [okNa, k1, k2, k3, k4]

/-! ### Sets -/

def stWith (p : Nat × Nat) (s : Nat) : Nat × Nat := if s < 64 then (p.1 ||| 2 ^ s, p.2) else (p.1, p.2 ||| 2 ^ (s - 64))
theorem stWith_lt {p : Nat × Nat} (h : p.1 < 18446744073709551616 ∧ p.2 < 18446744073709551616) {s : Nat} (hs : s < 128) : (stWith p s).1 < 18446744073709551616 ∧ (stWith p s).2 < 18446744073709551616 := by
  unfold stWith
  split
  · exact ⟨Nat.or_lt_two_pow (n := 64) h.1 (Nat.pow_lt_pow_right (a := 2) (m := s) (n := 64) (by omega) (by omega)), h.2⟩
  · exact ⟨h.1, Nat.or_lt_two_pow (n := 64) h.2 (Nat.pow_lt_pow_right (a := 2) (m := s - 64) (n := 64) (by omega) (by omega))⟩
def stOf (xs : List Int) : Nat × Nat := xs.foldl (fun p s => stWith p s.toNat) (0, 0)
theorem stOf_lt {xs : List Int} (h : ∀ x ∈ xs, 0 ≤ x ∧ x < 128) : (stOf xs).1 < 18446744073709551616 ∧ (stOf xs).2 < 18446744073709551616 := by
  induction xs using snocInd with
  | nil => decide
  | snoc s b ih =>
    have := ih fun x hx => h x (by simp [hx])
    have hb := h b (by simp)
    unfold stOf at this ⊢
    rw [List.foldl_append]
    exact stWith_lt this (by omega)

theorem c_setOf (xs : List Int) (hl : xs.length ≤ 9223372036854775807) (hx : ∀ x ∈ xs, 0 ≤ x ∧ x < 128) : DCalls Try.prog 78 [.d (intsD xs)] fun y => y = stD (stOf xs).1 (stOf xs).2 := by
  refine dcalls_intro Ty.mixed Try.func78 rfl rfl rfl [] (by kernel_rfl) (by simp) ?_
  simp
  refine LoopVC.at { i : Nat // i ≤ xs.length } (fun i => [(2, .ptr 200 0), (3, .ptr 300 0), (6, .d (intsD xs)), (7, iA xs.length), (8, iA i.1)]) (fun i => [(200, .bx [.d (.int .u64 0), .d (.int .u64 0)]), (300, .bx [.d (.int .u64 (stOf (xs.take i.1)).1), .d (.int .u64 (stOf (xs.take i.1)).2)])]) [200, 300] (fun i => xs.length - i.1) ⟨0, by simp⟩ (by simp) (by simp [stOf]) ?_
  rintro ⟨i, hi⟩
  rcases Nat.lt_or_ge i xs.length with h | h
  · have hb := hx _ (List.getElem_mem h)
    have hlt := stOf_lt (xs := xs.take i) fun x hm => hx x (List.mem_of_mem_take hm)
    have hsn : stOf (xs.take (i + 1)) = stWith (stOf (xs.take i)) xs[i].toNat := by unfold stOf; rw [foldl_take2 _ _ h]
    generalize stOf (xs.take i) = q at *
    obtain ⟨qa, qb⟩ := q
    generalize hxi : xs[i] = v at *
    obtain ⟨k, rfl⟩ : ∃ k : Nat, v = k := ⟨v.toNat, by omega⟩
    simp [h, hxi]
    refine .ddat (c_with qa qb hlt.1 hlt.2 k (by omega)) rfl (by simp [stD]) ?_
    rintro _ rfl
    rcases Nat.lt_or_ge k 64 with hk | hk
    · simp [stD, hk]
      refine ⟨i + 1, .mk (by simp; exact wrap64 (by omega) (by omega)) (by simp [hsn, stWith, hk]), h, by omega⟩
    · simp [stD, Nat.not_lt.2 hk]
      refine ⟨i + 1, .mk (by simp; exact wrap64 (by omega) (by omega)) (by simp [hsn, stWith, Nat.not_lt.2 hk]), h, by omega⟩
  · have : i = xs.length := by omega
    subst this
    simp [stD]

/-! ### The empty word -/

/-- Without moves without a letter, nothing is closed. -/
theorem c_close0 (a : Na) (x y : Nat) (h1 : a.ms.length ≤ 9223372036854775807) (hm : ∀ m ∈ a.ms, m.l ≠ -1) : DCalls Try.prog 77 [.d a.d, .d (stD x y)] fun r => r = stD x y := by
  refine dcalls_intro Ty.mixed Try.func77 rfl rfl rfl [2] (by kernel_rfl) (by simp) ?_
  simp [Na.d, stD]
  refine LoopVC.at Bool (fun b => [(2, .dp [iA a.n, .d (.list (a.ms.map Mv.d)), .d (intsD a.fs), .d (intsD a.es)]), (3, .ptr 300 0), (4, .ptr 400 0), (5, .d (.bool b))]) (fun _ => [(300, .bx [.d (.int .u64 x), .d (.int .u64 y)]), (400, .bx [.d (.int .u64 0), .d (.int .u64 0)])]) [300, 400] (fun b => if b then 1 else 0) true (by simp) (by simp) ?_
  intro b
  cases b with
  | false => simp
  | true =>
    simp
    refine LoopVC.at { i : Nat // i ≤ a.ms.length } (fun i => [(2, .dp [iA a.n, .d (.list (a.ms.map Mv.d)), .d (intsD a.fs), .d (intsD a.es)]), (3, .ptr 300 0), (4, .ptr 400 0), (5, .d (.bool false)), (10, .d (.list (a.ms.map Mv.d))), (11, iA a.ms.length), (12, iA i.1)]) (fun _ => [(300, .bx [.d (.int .u64 x), .d (.int .u64 y)]), (400, .bx [.d (.int .u64 0), .d (.int .u64 0)])]) [300, 400] (fun i => a.ms.length - i.1) ⟨0, by simp⟩ (by simp) (by simp) ?_
    rintro ⟨i, hi⟩
    rcases Nat.lt_or_ge i a.ms.length with h | h
    · have hne := hm _ (List.getElem_mem h)
      have hne' : (a.ms[i].l == -1) = false := by simp [hne]
      simp [h, Mv.d, hne']
      refine .go (by simp) (by simp) (by simp) (fun _ => ?_)
      simp
      refine .go (by simp) (by simp) (by simp) (fun _ => ?_)
      simp
      refine ⟨i + 1, .mk (by simp; exact wrap64 (by omega) (by omega)) (by simp), h, by omega⟩
    · simp [Nat.not_lt.2 h]
      exact .mk (by simp) (by simp)

theorem c_first0 (a : Na) (h1 : a.ms.length ≤ 9223372036854775807) (h2 : a.fs.length ≤ 9223372036854775807) (hx : ∀ x ∈ a.fs, 0 ≤ x ∧ x < 128) (hm : ∀ m ∈ a.ms, m.l ≠ -1) : DCalls Try.prog 121 [.d a.d] fun r => r = stD (stOf a.fs).1 (stOf a.fs).2 := by
  refine dcalls_intro Ty.mixed Try.func121 rfl rfl rfl [1] (by kernel_rfl) (by simp) ?_
  simp [Na.d]
  refine .one (sch [.pur 0, .pur 1, .pur 2, .eff 3 [0], .eff 4 [], .eff 5 []]) (by kernel_rfl) ?_
  simp
  refine .ddat (c_setOf a.fs h2 hx) rfl (by simp) ?_
  rintro _ rfl
  simp
  refine .ddat (c_close0 a _ _ h1 hm) rfl (by simp [Na.d]) ?_
  rintro _ rfl
  simp [stD]

theorem c_run0 (a : Na) (h1 : a.ms.length ≤ 9223372036854775807) (h2 : a.fs.length ≤ 9223372036854775807) (hx : ∀ x ∈ a.fs, 0 ≤ x ∧ x < 128) (hm : ∀ m ∈ a.ms, m.l ≠ -1) : DCalls Try.prog 87 [.d a.d, sA []] fun r => r = stD (stOf a.fs).1 (stOf a.fs).2 := by
  refine dcalls_intro Ty.mixed Try.func87 rfl rfl rfl [2] (by kernel_rfl) (by simp) ?_
  simp [Na.d]
  refine .ddat (c_first0 a h1 h2 hx hm) rfl (by simp [Na.d]) ?_
  rintro _ rfl
  simp [stD]
  refine LoopVC.at Unit (fun _ => [(4, .ptr 400 0), (5, .ptr 500 0), (10, iA 0), (11, iA 0)]) (fun _ => [(400, .bx [.d (.int .u64 0), .d (.int .u64 0)]), (500, .bx [.d (.int .u64 (stOf a.fs).1), .d (.int .u64 (stOf a.fs).2)])]) [400, 500] (fun _ => 0) () (by simp) (by simp) ?_
  intro _
  simp

theorem c_ends (a : Na) (x y : Nat) (h3 : a.es.length ≤ 9223372036854775807) (hx : x < 18446744073709551616) (hy : y < 18446744073709551616) (he : ∀ s ∈ a.es, 0 ≤ s ∧ s < 128) : DCalls Try.prog 86 [.d a.d, .d (stD x y)] fun r => r = .bool (a.es.any fun s => stHas x y s.toNat) := by
  refine dcalls_intro Ty.mixed Try.func86 rfl rfl rfl [2, 3] (by kernel_rfl) (by simp) ?_
  simp [Na.d, stD]
  refine .dval (c_hasInts a.es _ (fun s => stHas x y s.toNat) ?_ h3) rfl (by simp) rfl ?_
  · intro s hs K hK
    have := he s hs
    obtain ⟨k, rfl⟩ : ∃ k : Nat, s = k := ⟨s.toNat, by omega⟩
    exact ⟨_, c_has x y hx hy k (by omega), by rintro r rfl; rfl, by rintro r rfl; exact hK⟩
  simp

set_option maxRecDepth 100000 in
theorem c_accepts0 (a : Na) (h1 : a.ms.length ≤ 9223372036854775807) (h2 : a.fs.length ≤ 9223372036854775807) (h3 : a.es.length ≤ 9223372036854775807) (hv : okNa a = true) (hx : ∀ x ∈ a.fs, 0 ≤ x ∧ x < 128) (hm : ∀ m ∈ a.ms, m.l ≠ -1) (he : ∀ s ∈ a.es, 0 ≤ s ∧ s < 128) :
    DCalls Try.prog 35 [.d a.d, sA []] fun r => r = .bool (a.es.any fun s => stHas (stOf a.fs).1 (stOf a.fs).2 s.toNat) := by
  refine dcalls_intro Ty.mixed Try.func35 rfl rfl rfl [2] (by kernel_rfl) (by simp) ?_
  simp [Na.d]
  refine .one (sch [.pur 0, .eff 1 [], .pur 2, .pur 3, .eff 4 [], .pur 5, .pur 6, .pur 7, .pur 8, .pur 9, .eff 10 [7], .eff 11 [], .pur 12, .pur 13]) (by kernel_rfl) ?_
  simp
  refine .dval (c_NfaValid a h1 h2 h3) rfl (by simp [Na.d]) rfl ?_
  rw [hv]
  simp
  refine .flat (fun _ => c_WordValid [] (by simp)) rfl (by simp) rfl (by simp) ?_
  rw [show wordOk [] = true by decide]
  simp
  refine .flat (fun _ => c_run0 a h1 h2 hx hm) rfl (by simp [Na.d]) rfl (by simp) ?_
  simp
  have hlt := stOf_lt hx
  refine .flat (fun _ => c_ends a _ _ h3 hlt.1 hlt.2 he) rfl (by simp [Na.d]) rfl (by simp) ?_
  simp

/-! ### The law -/

theorem naM_ok {n : Int} {rs : List Rd} (h : okRoads n rs = true) : okNa ⟨n, rs.map fun r => ⟨r.f, r.l, r.t⟩, [0], [n - 1]⟩ = true := by
  obtain ⟨n1, n2, n3, hrs⟩ := okRoads_of h
  have hw : IntKind.i64.wrap (n - 1) = n - 1 := wrap64 (by omega) (by omega)
  have ha : (rs.map fun r => (⟨r.f, r.l, r.t⟩ : Mv)).any (Mv.bad n) = false := by
    rw [List.any_eq_false]
    intro m hm
    obtain ⟨r, hr, rfl⟩ := List.mem_map.1 hm
    have := hrs r hr
    simp [Mv.bad, hw, inR]; omega
  have e1 : stOk n [0] = true := by simp [stOk, stAt, hw, inR]; omega
  have e2 : stOk n [n - 1] = true := by simp [stOk, stAt, hw, inR]; omega
  simp only [okNa, e1, e2, ha]
  simp [inR]; omega

end Go.Fw
