/- Copies, equality and sizes of rewriters; the laws that say what is exact. -/
import Derived.Test.YteenfgdemklhcaaLi
set_option linter.unusedSimpArgs false
set_option linter.unusedVariables false
namespace Go.Fw
open Go Go.Proofs

/-! ### Sizes -/

/-- What is left after a size, or -1. -/
def leftOk (left v : Int) (P : Prop) : Prop := -1 ≤ v ∧ v ≤ left ∧ (0 ≤ v → P)

theorem c_szIntS (xs : List Int) (left : Int) (hl : 0 ≤ left ∧ left ≤ 1048576) (h : xs.length ≤ 9223372036854775807) : DCalls Try.prog 61 [.d (intsD xs), iA left] fun y => ∃ v, y = iD v ∧ leftOk left v (xs.length ≤ 1048576) := by
  refine dcalls_intro Ty.mixed Try.func61 rfl rfl rfl [] (by kernel_rfl) (by simp) ?_
  have e : IntKind.i64.wrap (left - xs.length) = left - xs.length := wrap64 (by omega) (by omega)
  simp [leftOk, e]
  omega

theorem c_szStringS (xs : List (List UInt8)) (left : Int) (hl : 0 ≤ left ∧ left ≤ 1048576) (h : xs.length ≤ 9223372036854775807) (hx : ∀ x ∈ xs, x.length ≤ 9223372036854775807) : DCalls Try.prog 40 [.d (ssD xs), iA left] fun y => ∃ v, y = iD v ∧ leftOk left v (xs.length ≤ 1048576 ∧ ∀ x ∈ xs, x.length ≤ 1048576) := by
  refine dcalls_intro Ty.mixed Try.func40 rfl rfl rfl [] (by kernel_rfl) (by simp) ?_
  have e : IntKind.i64.wrap (left - xs.length) = left - xs.length := wrap64 (by omega) (by omega)
  simp [e]
  refine ⟨fun _ => by simp [leftOk]; omega, fun h1 => ?_⟩
  refine LoopVC.at { p : Nat × Int // p.1 ≤ xs.length ∧ 0 ≤ p.2 ∧ p.2 ≤ left ∧ ∀ j (h : j < xs.length), j < p.1 → xs[j].length ≤ 1048576 } (fun p => [(0, .d (ssD xs)), (1, iA p.1.2), (5, iA p.1.1)]) (fun _ => []) [] (fun p => xs.length - p.1.1) ⟨(0, left - xs.length), by simp; omega⟩ (by simp) (by simp) ?_
  rintro ⟨⟨i, l⟩, hi, h2, h3, hp⟩
  simp only at hi h2 h3 hp
  rcases Nat.lt_or_ge i xs.length with h' | h'
  · have hb := hx _ (List.getElem_mem h')
    have e2 : IntKind.i64.wrap (l - xs[i].length) = l - xs[i].length := wrap64 (by omega) (by omega)
    simp [h', e2]
    refine ⟨fun _ => by simp [leftOk]; omega, fun h4 => ⟨i + 1, l - xs[i].length, .mk (by simp; exact wrap64 (by omega) (by omega)) (by simp), ⟨h', by omega, by omega, upto_succ hp h' (by omega)⟩, by omega⟩⟩
  · simp [Nat.not_lt.2 h', leftOk]
    refine ⟨by omega, h3, fun _ => ⟨by omega, fun x hm => ?_⟩⟩
    obtain ⟨j, hj, rfl⟩ := List.mem_iff_getElem.1 hm
    exact hp j hj (by omega)

theorem c_szIntSS (xs : List (List Int)) (left : Int) (hl : 0 ≤ left ∧ left ≤ 1048576) (h : xs.length ≤ 9223372036854775807) (hx : ∀ x ∈ xs, x.length ≤ 9223372036854775807) : DCalls Try.prog 22 [.d (.list (xs.map intsD)), iA left] fun y => ∃ v, y = iD v ∧ leftOk left v (xs.length ≤ 1048576 ∧ ∀ x ∈ xs, x.length ≤ 1048576) := by
  refine dcalls_intro Ty.mixed Try.func22 rfl rfl rfl [] (by kernel_rfl) (by simp) ?_
  have e : IntKind.i64.wrap (left - xs.length) = left - xs.length := wrap64 (by omega) (by omega)
  simp [e]
  refine ⟨fun _ => by simp [leftOk]; omega, fun h1 => ?_⟩
  refine LoopVC.at { p : Nat × Int // p.1 ≤ xs.length ∧ 0 ≤ p.2 ∧ p.2 ≤ left ∧ ∀ j (h : j < xs.length), j < p.1 → xs[j].length ≤ 1048576 } (fun p => [(0, .d (.list (xs.map intsD))), (1, iA p.1.2), (5, iA p.1.1)]) (fun _ => []) [] (fun p => xs.length - p.1.1) ⟨(0, left - xs.length), by simp; omega⟩ (by simp) (by simp) ?_
  rintro ⟨⟨i, l⟩, hi, h2, h3, hp⟩
  simp only at hi h2 h3 hp
  rcases Nat.lt_or_ge i xs.length with h' | h'
  · have hb := hx _ (List.getElem_mem h')
    simp [h']
    refine .ddat (c_szIntS xs[i] l (by omega) hb) rfl (by simp) ?_
    rintro _ ⟨v, rfl, h4, h5, h6⟩
    simp [h']
    refine ⟨fun _ => by simp [leftOk]; omega, fun h7 => ⟨i + 1, v, .mk (by simp; exact wrap64 (by omega) (by omega)) (by simp), ⟨h', by omega, by omega, upto_succ hp h' (h6 h7)⟩, by omega⟩⟩
  · simp [Nat.not_lt.2 h', leftOk]
    refine ⟨by omega, h3, fun _ => ⟨by omega, fun x hm => ?_⟩⟩
    obtain ⟨j, hj, rfl⟩ := List.mem_iff_getElem.1 hm
    exact hp j hj (by omega)

theorem c_szStringSS (xs : List (List (List UInt8))) (left : Int) (hl : 0 ≤ left ∧ left ≤ 1048576) (h : xs.length ≤ 9223372036854775807) (hx : ∀ x ∈ xs, x.length ≤ 9223372036854775807 ∧ ∀ s ∈ x, s.length ≤ 9223372036854775807) : DCalls Try.prog 39 [.d (.list (xs.map ssD)), iA left] fun y => ∃ v, y = iD v ∧ leftOk left v (xs.length ≤ 1048576 ∧ ∀ x ∈ xs, x.length ≤ 1048576 ∧ ∀ s ∈ x, s.length ≤ 1048576) := by
  refine dcalls_intro Ty.mixed Try.func39 rfl rfl rfl [] (by kernel_rfl) (by simp) ?_
  have e : IntKind.i64.wrap (left - xs.length) = left - xs.length := wrap64 (by omega) (by omega)
  simp [e]
  refine ⟨fun _ => by simp [leftOk]; omega, fun h1 => ?_⟩
  refine LoopVC.at { p : Nat × Int // p.1 ≤ xs.length ∧ 0 ≤ p.2 ∧ p.2 ≤ left ∧ ∀ j (h : j < xs.length), j < p.1 → xs[j].length ≤ 1048576 ∧ ∀ s ∈ xs[j], s.length ≤ 1048576 } (fun p => [(0, .d (.list (xs.map ssD))), (1, iA p.1.2), (5, iA p.1.1)]) (fun _ => []) [] (fun p => xs.length - p.1.1) ⟨(0, left - xs.length), by simp; omega⟩ (by simp) (by simp) ?_
  rintro ⟨⟨i, l⟩, hi, h2, h3, hp⟩
  simp only at hi h2 h3 hp
  rcases Nat.lt_or_ge i xs.length with h' | h'
  · have hb := hx _ (List.getElem_mem h')
    simp [h']
    refine .ddat (c_szStringS xs[i] l (by omega) hb.1 hb.2) rfl (by simp) ?_
    rintro _ ⟨v, rfl, h4, h5, h6⟩
    simp [h']
    refine ⟨fun _ => by simp [leftOk]; omega, fun h7 => ⟨i + 1, v, .mk (by simp; exact wrap64 (by omega) (by omega)) (by simp), ⟨h', by omega, by omega, upto_succ hp h' (h6 h7)⟩, by omega⟩⟩
  · simp [Nat.not_lt.2 h', leftOk]
    refine ⟨by omega, h3, fun _ => ⟨by omega, fun x hm => ?_⟩⟩
    obtain ⟨j, hj, rfl⟩ := List.mem_iff_getElem.1 hm
    exact hp j hj (by omega)

/-- Small enough to be copied. -/
structure Rw.small (r : Rw) : Prop where
  next : r.next.length ≤ 1048576
  row : ∀ x ∈ r.next, x.length ≤ 1048576
  out : r.out.length ≤ 1048576
  orow : ∀ (xs : List (List UInt8)), xs ∈ r.out → xs.length ≤ 1048576 ∧ ∀ x ∈ xs, x.length ≤ 1048576
  fin : r.fin.length ≤ 1048576
  ftext : ∀ x ∈ r.fin, x.length ≤ 1048576
theorem Rw.small.fine {r : Rw} (h : r.small) : r.fine where
  out := fun xs hx => by have := h.orow xs hx; exact ⟨by omega, fun x hm => by have := this.2 x hm; omega⟩
  fin := fun x hx => by have := h.ftext x hx; omega
  next := fun x hx => by have := h.row x hx; omega
  len := by have := h.next; omega

theorem c_szRewriter (r : Rw) (left : Int) (hl : 0 ≤ left ∧ left ≤ 1048576) (h : r.fine) (ho : r.out.length ≤ 9223372036854775807) (hf : r.fin.length ≤ 9223372036854775807) : DCalls Try.prog 13 [.d r.d, iA left] fun y => ∃ v, y = iD v ∧ leftOk left v r.small := by
  refine dcalls_intro Ty.mixed Try.func13 rfl rfl rfl [2] (by kernel_rfl) (by simp) ?_
  simp [Rw.d]
  refine .ddat (c_szIntSS r.next left hl h.len h.next) rfl (by simp) ?_
  rintro _ ⟨v, rfl, h4, h5, h6⟩
  simp
  refine ⟨fun _ => by simp [leftOk]; omega, fun h7 => ?_⟩
  refine .ddat (c_szStringSS r.out v (by omega) ho h.out) rfl (by simp) ?_
  rintro _ ⟨v2, rfl, g4, g5, g6⟩
  simp
  refine ⟨fun _ => by simp [leftOk]; omega, fun g7 => ?_⟩
  refine .ddat (c_szStringS r.fin v2 (by omega) hf h.fin) rfl (by simp) ?_
  rintro _ ⟨v3, rfl, k4, k5, k6⟩
  simp
  refine ⟨fun _ => by simp [leftOk]; omega, fun k7 => ⟨by omega, by omega, fun _ => ⟨(h6 h7).1, (h6 h7).2, (g6 g7).1, (g6 g7).2, (k6 k7).1, (k6 k7).2⟩⟩⟩

/-! ### Copies -/

theorem c_toIntS (xs : List Int) (hlen : xs.length ≤ 1048576) : DCalls Try.prog 65 [.d (intsD xs)] fun y => y = intsD xs := by
  refine dcalls_intro Ty.mixed Try.func65 rfl rfl rfl [] (by kernel_rfl) (by simp) ?_
  simp
  refine ⟨by omega, ?_⟩
  refine LoopVC.at { i : Nat // i ≤ xs.length } (fun i => [(0, .d (intsD xs)), (3, .sl 1 700 0 xs.length), (4, iA i.1)]) (fun i => [(700, .ar 1 (mixL (xs.map iD) (iD 0) i.1))]) [700] (fun i => xs.length - i.1) ⟨0, by simp⟩ (by simp) (by simp [mixL_zero]) ?_
  rintro ⟨i, hi⟩
  rcases Nat.lt_or_ge i xs.length with h | h
  · have hl : (mixL (xs.map iD) (iD 0) i).length = xs.length := by rw [mixL_len (by simpa using hi)]; simp
    simp [h, hl]
    refine ⟨i + 1, .mk (by simp; exact wrap64 (by omega) (by omega)) (by simp; rw [← mixL_set (by simpa using h)]; simp), h, by omega⟩
  · simp [Nat.not_lt.2 h]
    rw [mixL_all (by simpa using h)]
    exact ⟨Nat.le_of_eq (List.length_map _).symm, List.take_of_length_le (Nat.le_of_eq (List.length_map _))⟩

theorem c_toStringS (xs : List (List UInt8)) (hlen : xs.length ≤ 1048576) : DCalls Try.prog 44 [.d (ssD xs)] fun y => y = ssD xs := by
  refine dcalls_intro Ty.mixed Try.func44 rfl rfl rfl [] (by kernel_rfl) (by simp) ?_
  simp
  refine ⟨by omega, ?_⟩
  refine LoopVC.at { i : Nat // i ≤ xs.length } (fun i => [(0, .d (ssD xs)), (3, .sl 1 700 0 xs.length), (4, iA i.1)]) (fun i => [(700, .ar 1 (mixL (xs.map sD) (sD []) i.1))]) [700] (fun i => xs.length - i.1) ⟨0, by simp⟩ (by simp) (by simp [mixL_zero]) ?_
  rintro ⟨i, hi⟩
  rcases Nat.lt_or_ge i xs.length with h | h
  · have hl : (mixL (xs.map sD) (sD []) i).length = xs.length := by rw [mixL_len (by simpa using hi)]; simp
    simp [h, hl]
    refine ⟨i + 1, .mk (by simp; exact wrap64 (by omega) (by omega)) (by simp; rw [← mixL_set (by simpa using h)]; simp), h, by omega⟩
  · simp [Nat.not_lt.2 h]
    rw [mixL_all (by simpa using h)]
    exact ⟨Nat.le_of_eq (List.length_map _).symm, List.take_of_length_le (Nat.le_of_eq (List.length_map _))⟩

theorem c_toIntSS (xs : List (List Int)) (hlen : xs.length ≤ 1048576) (hx : ∀ x ∈ xs, x.length ≤ 1048576) : DCalls Try.prog 26 [.d (.list (xs.map intsD))] fun y => y = .list (xs.map intsD) := by
  refine dcalls_intro Ty.mixed Try.func26 rfl rfl rfl [] (by kernel_rfl) (by simp) ?_
  simp
  refine ⟨by omega, ?_⟩
  refine LoopVC.at { i : Nat // i ≤ xs.length } (fun i => [(0, .d (.list (xs.map intsD))), (3, .sl 1 700 0 xs.length), (4, iA i.1)]) (fun i => [(700, .ar 1 (mixL (xs.map intsD) (.list []) i.1))]) [700] (fun i => xs.length - i.1) ⟨0, by simp⟩ (by simp) (by simp [mixL_zero]) ?_
  rintro ⟨i, hi⟩
  rcases Nat.lt_or_ge i xs.length with h | h
  · have hl : (mixL (xs.map intsD) (.list []) i).length = xs.length := by rw [mixL_len (by simpa using hi)]; simp
    simp [h, hl]
    refine .ddat (c_toIntS xs[i] (hx _ (List.getElem_mem h))) rfl (by simp) ?_
    rintro _ rfl
    simp [h, hl]
    refine ⟨i + 1, .mk (by simp; exact wrap64 (by omega) (by omega)) (by simp; rw [← mixL_set (by simpa using h)]; simp), h, by omega⟩
  · simp [Nat.not_lt.2 h]
    rw [mixL_all (by simpa using h)]
    exact ⟨Nat.le_of_eq (List.length_map _).symm, List.take_of_length_le (Nat.le_of_eq (List.length_map _))⟩

theorem c_toStringSS (xs : List (List (List UInt8))) (hlen : xs.length ≤ 1048576) (hx : ∀ x ∈ xs, x.length ≤ 1048576) : DCalls Try.prog 43 [.d (.list (xs.map ssD))] fun y => y = .list (xs.map ssD) := by
  refine dcalls_intro Ty.mixed Try.func43 rfl rfl rfl [] (by kernel_rfl) (by simp) ?_
  simp
  refine ⟨by omega, ?_⟩
  refine LoopVC.at { i : Nat // i ≤ xs.length } (fun i => [(0, .d (.list (xs.map ssD))), (3, .sl 1 700 0 xs.length), (4, iA i.1)]) (fun i => [(700, .ar 1 (mixL (xs.map ssD) (.list []) i.1))]) [700] (fun i => xs.length - i.1) ⟨0, by simp⟩ (by simp) (by simp [mixL_zero]) ?_
  rintro ⟨i, hi⟩
  rcases Nat.lt_or_ge i xs.length with h | h
  · have hl : (mixL (xs.map ssD) (.list []) i).length = xs.length := by rw [mixL_len (by simpa using hi)]; simp
    simp [h, hl]
    refine .ddat (c_toStringS xs[i] (hx _ (List.getElem_mem h))) rfl (by simp) ?_
    rintro _ rfl
    simp [h, hl]
    refine ⟨i + 1, .mk (by simp; exact wrap64 (by omega) (by omega)) (by simp; rw [← mixL_set (by simpa using h)]; simp), h, by omega⟩
  · simp [Nat.not_lt.2 h]
    rw [mixL_all (by simpa using h)]
    exact ⟨Nat.le_of_eq (List.length_map _).symm, List.take_of_length_le (Nat.le_of_eq (List.length_map _))⟩

theorem c_toRewriter (r : Rw) (h : r.small) : DCalls Try.prog 15 [.d r.d] fun y => y = r.d := by
  refine dcalls_intro Ty.mixed Try.func15 rfl rfl rfl [1] (by kernel_rfl) (by simp) ?_
  simp [Rw.d]
  refine .ddat (c_toIntSS r.next h.next h.row) rfl (by simp) ?_
  rintro _ rfl
  simp
  refine .ddat (c_toStringSS r.out h.out (fun x hx => (h.orow x hx).1)) rfl (by simp) ?_
  rintro _ rfl
  simp
  refine .ddat (c_toStringS r.fin h.fin) rfl (by simp) ?_
  rintro _ rfl
  simp

/-! ### Equality -/

theorem c_eqIntS (xs ys : List Int) (h1 : xs.length ≤ 9223372036854775807) : DCalls Try.prog 77 [.d (intsD xs), .d (intsD ys)] fun y => y = .bool (decide (xs = ys)) := by
  refine dcalls_intro Ty.mixed Try.func77 rfl rfl rfl [] (by kernel_rfl) (by simp) ?_
  simp
  refine ⟨fun hne e => hne (by rw [e]), fun hlen => ?_⟩
  refine LoopVC.at { i : Nat // i ≤ xs.length ∧ ∀ j (h : j < xs.length), j < i → ∃ h' : j < ys.length, xs[j] = ys[j] } (fun i => [(0, .d (intsD xs)), (1, .d (intsD ys)), (5, iA i.1)]) (fun _ => []) [] (fun i => xs.length - i.1) ⟨0, by simp⟩ (by simp) (by simp) ?_
  rintro ⟨i, hi, hp⟩
  rcases Nat.lt_or_ge i xs.length with h | h
  · have h' : i < ys.length := by omega
    simp [h]
    refine .one (sch [.pur 0, .pur 1, .pur 2, .pur 3, .pur 4, .pur 5, .pur 6, .pur 7, .pur 8]) (by kernel_rfl) ?_
    simp [h, h']
    refine ⟨fun hne e => hne (by subst e; rfl), fun he => ⟨i + 1, .mk (by simp; exact wrap64 (by omega) (by omega)) (by simp), ⟨h, upto_succ hp h ⟨h', he⟩⟩, by omega⟩⟩
  · simp [Nat.not_lt.2 h]
    refine List.ext_getElem (by omega) fun j hj hj' => ?_
    obtain ⟨_, he⟩ := hp j hj (by omega)
    exact he

theorem c_eqStringS (xs ys : List (List UInt8)) (h1 : xs.length ≤ 9223372036854775807) : DCalls Try.prog 51 [.d (ssD xs), .d (ssD ys)] fun y => y = .bool (decide (xs = ys)) := by
  refine dcalls_intro Ty.mixed Try.func51 rfl rfl rfl [] (by kernel_rfl) (by simp) ?_
  simp
  refine ⟨fun hne e => hne (by rw [e]), fun hlen => ?_⟩
  refine LoopVC.at { i : Nat // i ≤ xs.length ∧ ∀ j (h : j < xs.length), j < i → ∃ h' : j < ys.length, xs[j] = ys[j] } (fun i => [(0, .d (ssD xs)), (1, .d (ssD ys)), (5, iA i.1)]) (fun _ => []) [] (fun i => xs.length - i.1) ⟨0, by simp⟩ (by simp) (by simp) ?_
  rintro ⟨i, hi, hp⟩
  rcases Nat.lt_or_ge i xs.length with h | h
  · have h' : i < ys.length := by omega
    simp [h]
    refine .one (sch [.pur 0, .pur 1, .pur 2, .pur 3, .pur 4, .pur 5, .pur 6, .pur 7, .pur 8]) (by kernel_rfl) ?_
    simp [h, h']
    refine ⟨fun hne e => hne (by subst e; rfl), fun he => ⟨i + 1, .mk (by simp; exact wrap64 (by omega) (by omega)) (by simp), ⟨h, upto_succ hp h ⟨h', he⟩⟩, by omega⟩⟩
  · simp [Nat.not_lt.2 h]
    refine List.ext_getElem (by omega) fun j hj hj' => ?_
    obtain ⟨_, he⟩ := hp j hj (by omega)
    exact he

theorem c_eqIntSS (xs ys : List (List Int)) (h1 : xs.length ≤ 9223372036854775807) (hx : ∀ x ∈ xs, x.length ≤ 9223372036854775807) : DCalls Try.prog 33 [.d (.list (xs.map intsD)), .d (.list (ys.map intsD))] fun y => y = .bool (decide (xs = ys)) := by
  refine dcalls_intro Ty.mixed Try.func33 rfl rfl rfl [] (by kernel_rfl) (by simp) ?_
  simp
  refine ⟨fun hne e => hne (by rw [e]), fun hlen => ?_⟩
  refine LoopVC.at { i : Nat // i ≤ xs.length ∧ ∀ j (h : j < xs.length), j < i → ∃ h' : j < ys.length, xs[j] = ys[j] } (fun i => [(0, .d (.list (xs.map intsD))), (1, .d (.list (ys.map intsD))), (5, iA i.1)]) (fun _ => []) [] (fun i => xs.length - i.1) ⟨0, by simp⟩ (by simp) (by simp) ?_
  rintro ⟨i, hi, hp⟩
  rcases Nat.lt_or_ge i xs.length with h | h
  · have h' : i < ys.length := by omega
    simp [h]
    refine .one (sch [.pur 0, .pur 1, .pur 2, .pur 3, .pur 4, .pur 5, .pur 6, .pur 7, .eff 8 [], .pur 9]) (by kernel_rfl) ?_
    simp [h, h']
    refine .dval (c_eqIntS xs[i] ys[i] (hx _ (List.getElem_mem h))) rfl (by simp) rfl ?_
    simp
    refine ⟨fun hne e => hne (by subst e; rfl), fun he => ⟨i + 1, .mk (by simp; exact wrap64 (by omega) (by omega)) (by simp), ⟨h, upto_succ hp h ⟨h', he⟩⟩, by omega⟩⟩
  · simp [Nat.not_lt.2 h]
    refine List.ext_getElem (by omega) fun j hj hj' => ?_
    obtain ⟨_, he⟩ := hp j hj (by omega)
    exact he

theorem c_eqStringSS (xs ys : List (List (List UInt8))) (h1 : xs.length ≤ 9223372036854775807) (hx : ∀ x ∈ xs, x.length ≤ 9223372036854775807) : DCalls Try.prog 50 [.d (.list (xs.map ssD)), .d (.list (ys.map ssD))] fun y => y = .bool (decide (xs = ys)) := by
  refine dcalls_intro Ty.mixed Try.func50 rfl rfl rfl [] (by kernel_rfl) (by simp) ?_
  simp
  refine ⟨fun hne e => hne (by rw [e]), fun hlen => ?_⟩
  refine LoopVC.at { i : Nat // i ≤ xs.length ∧ ∀ j (h : j < xs.length), j < i → ∃ h' : j < ys.length, xs[j] = ys[j] } (fun i => [(0, .d (.list (xs.map ssD))), (1, .d (.list (ys.map ssD))), (5, iA i.1)]) (fun _ => []) [] (fun i => xs.length - i.1) ⟨0, by simp⟩ (by simp) (by simp) ?_
  rintro ⟨i, hi, hp⟩
  rcases Nat.lt_or_ge i xs.length with h | h
  · have h' : i < ys.length := by omega
    simp [h]
    refine .one (sch [.pur 0, .pur 1, .pur 2, .pur 3, .pur 4, .pur 5, .pur 6, .pur 7, .eff 8 [], .pur 9]) (by kernel_rfl) ?_
    simp [h, h']
    refine .dval (c_eqStringS xs[i] ys[i] (hx _ (List.getElem_mem h))) rfl (by simp) rfl ?_
    simp
    refine ⟨fun hne e => hne (by subst e; rfl), fun he => ⟨i + 1, .mk (by simp; exact wrap64 (by omega) (by omega)) (by simp), ⟨h, upto_succ hp h ⟨h', he⟩⟩, by omega⟩⟩
  · simp [Nat.not_lt.2 h]
    refine List.ext_getElem (by omega) fun j hj hj' => ?_
    obtain ⟨_, he⟩ := hp j hj (by omega)
    exact he

theorem c_eqRewriter (r q : Rw) (h : r.small) : DCalls Try.prog 17 [.d r.d, .d q.d] fun y => y = .bool (decide (r = q)) := by
  refine dcalls_intro Ty.mixed Try.func17 rfl rfl rfl [2, 3] (by kernel_rfl) (by simp) ?_
  have e : decide (r = q) = (decide (r.next = q.next) && decide (r.out = q.out) && decide (r.fin = q.fin)) := by
    cases r; cases q; simp; grind
  rw [e]
  have n1 := h.next
  have n2 := h.out
  have n3 := h.fin
  simp [Rw.d]
  refine .dval (c_eqIntSS r.next q.next (by omega) (fun x hx => by have := h.row x hx; omega)) rfl (by simp) rfl ?_
  simp
  refine ⟨fun hno => by simp [hno], fun e1 => ?_⟩
  refine .dval (c_eqStringSS r.out q.out (by omega) (fun x hx => by have := (h.orow x hx).1; omega)) rfl (by simp) rfl ?_
  simp
  refine ⟨fun hno => by simp [hno], fun e2 => ?_⟩
  refine .dval (c_eqStringS r.fin q.fin (by omega)) rfl (by simp) rfl ?_
  simp [e1, e2]

/-! ### The laws -/

end Go.Fw
