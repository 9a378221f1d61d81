/- Contracts of small functions, and of the functions about roads. -/
import Derived.Test.YtfldfcibjkhpnaaTy
import Derived.Test.YtfldfcibjkhpnaaFwS
set_option linter.unusedSimpArgs false
set_option linter.unusedVariables false
namespace Go.Fw
open Go Go.Proofs

abbrev iD (n : Int) : D := .int .i64 n
abbrev iA (n : Int) : AV := .d (.int .i64 n)

/-- From lo to hi. -/
def inR (x lo hi : Int) : Bool := decide (lo ≤ x) && decide (x ≤ hi)

theorem c_within (x lo hi : Int) : DCalls Try.prog 46 [iA x, iA lo, iA hi] fun r => r = .bool (inR x lo hi) := by
  refine dcalls_intro Ty.mixed Try.func46 rfl rfl rfl [] (by kernel_rfl) (by simp) ?_
  simp [inR]
theorem c_l1In (x lo hi : Int) : DCalls Try.prog 44 [iA x, iA lo, iA hi] fun r => r = .bool (inR x lo hi) := by
  refine dcalls_intro Ty.mixed Try.func44 rfl rfl rfl [] (by kernel_rfl) (by simp) ?_
  simp [inR]
theorem c_isLetter (x : Int) : DCalls Try.prog 49 [iA x] fun r => r = .bool (inR x 0 2) := by
  refine dcalls_intro Ty.mixed Try.func49 rfl rfl rfl [] (by kernel_rfl) (by simp) ?_
  simp
  refine .dval (c_within _ _ _) rfl (by simp) rfl ?_
  simp

/-! ### Roads -/

structure Rd where
  f : Int
  l : Int
  t : Int
  c : Int
deriving DecidableEq
def Rd.d (r : Rd) : D := .agg [iD r.f, iD r.l, iD r.t, iD r.c]
def rsD (rs : List Rd) : D := .list (rs.map Rd.d)
def roadsD (n : Int) (rs : List Rd) : D := .agg [iD n, rsD rs]

/-- Does the road not fit into so many states? -/
def Rd.bad (n : Int) (r : Rd) : Bool := !inR r.f 0 (IntKind.i64.wrap (n - 1)) || !inR r.t 0 (IntKind.i64.wrap (n - 1)) || !inR r.l 0 2 || !inR r.c 0 99

theorem Rd.bad_eq (n : Int) (r : Rd) : r.bad n = (!inR r.f 0 (IntKind.i64.wrap (n - 1)) || !inR r.t 0 (IntKind.i64.wrap (n - 1)) || !inR r.l 0 2 || !inR r.c 0 99) := rfl
theorem c_RV1 (r : Rd) (n : Int) (x : AV) : DCalls Try.prog 48 [.d r.d, .dp [iA n, x]] fun y => y = .bool (r.bad n) := by
  refine dcalls_intro Ty.mixed Try.func48 rfl rfl rfl [2] (by kernel_rfl) (by simp) ?_
  simp [Rd.d]
  refine .dval (c_within _ _ _) rfl (by simp) rfl ?_
  simp
  refine .flat (fun _ => c_within _ _ _) rfl (by simp) rfl (by simp) ?_
  simp
  refine .flat (fun _ => c_isLetter _) rfl (by simp) rfl (by simp) ?_
  simp
  refine .flat (fun _ => c_within _ _ _) rfl (by simp) rfl (by simp) ?_
  simp [Rd.bad]

theorem wrap64 {n : Int} (h1 : -9223372036854775808 ≤ n) (h2 : n ≤ 9223372036854775807) : IntKind.i64.wrap n = n := by
  rw [IntKind.wrap_i64]; omega

/-- The first place at which 'p' holds. -/
def idxI {α : Type} (p : α → Bool) (xs : List α) : Int := match xs.findIdx? p with | some i => i | none => -1

theorem idxI_found {α : Type} {p : α → Bool} {xs : List α} {i : Nat} (hi : i < xs.length) (h : ∀ j (h : j < xs.length), j < i → p xs[j] = false) (hp : p xs[i] = true) : idxI p xs = i := by
  have : xs.findIdx? p = some i := by
    rw [List.findIdx?_eq_some_iff_getElem]
    exact ⟨hi, hp, fun j hj => by rw [h j (by omega) hj]; simp⟩
  simp [idxI, this]
theorem idxI_none {α : Type} {p : α → Bool} {xs : List α} {i : Nat} (hi : xs.length ≤ i) (h : ∀ j (h : j < xs.length), j < i → p xs[j] = false) : idxI p xs = -1 := by
  have : xs.findIdx? p = none := by
    rw [List.findIdx?_eq_none_iff]
    intro x hx
    obtain ⟨j, hj, rfl⟩ := List.mem_iff_getElem.1 hx
    exact h j hj (by omega)
  simp [idxI, this]
theorem idxI_any {α : Type} (p : α → Bool) (xs : List α) : decide (0 ≤ idxI p xs) = xs.any p := by
  unfold idxI
  cases h : xs.findIdx? p with
  | none =>
    rw [List.findIdx?_eq_none_iff] at h
    have : xs.any p = false := by rw [List.any_eq_false]; intro x hx; rw [h x hx]; simp
    rw [this]; rfl
  | some i =>
    rw [List.findIdx?_eq_some_iff_getElem] at h
    obtain ⟨hi, hp, _⟩ := h
    have : xs.any p = true := List.any_eq_true.2 ⟨_, List.getElem_mem hi, hp⟩
    rw [this]
    simp

theorem c_idxRoad (rs : List Rd) (S : List D → (D → Prop) → Prop) (p : Rd → Bool) (hS : ∀ x ∈ rs, ∀ K : D → Prop, K (.bool (p x)) → S [x.d] K) (hlen : rs.length ≤ 9223372036854775807) :
    DCalls Try.prog 76 [.d (rsD rs), .clo S] fun y => y = iD (idxI p rs) := by
  refine dcalls_intro Ty.mixed Try.func76 rfl rfl rfl [] (by kernel_rfl) (by simp) ?_
  simp [rsD]
  refine LoopVC.at { i : Nat // i ≤ rs.length ∧ ∀ j (h : j < rs.length), j < i → p rs[j] = false } (fun i => [(0, .d (rsD rs)), (1, .clo S), (7, iA rs.length), (8, iA i.1)]) (fun _ => []) [] (fun i => rs.length - i.1) ⟨0, by simp⟩ (by simp [rsD]) (by simp) ?_
  rintro ⟨i, hi, hp⟩
  rcases Nat.lt_or_ge i rs.length with h | h
  · simp [rsD, h, Rd.d]
    refine hS rs[i] (List.getElem_mem h) _ ?_
    simp
    refine ⟨fun ht => (idxI_found h hp ht).symm, fun hf => ⟨i + 1, .mk (by simp; exact wrap64 (by omega) (by omega)) (by simp), ⟨h, fun j hj hji => ?_⟩, by omega⟩⟩
    rcases Nat.lt_or_ge j i with h2 | h2
    · exact hp j hj h2
    · have : j = i := by omega
      subst this; exact hf
  · simp [rsD, Nat.not_lt.2 h]
    exact (idxI_none h hp).symm

theorem c_hasRoad (rs : List Rd) (S : List D → (D → Prop) → Prop) (p : Rd → Bool) (hS : ∀ x ∈ rs, ∀ K : D → Prop, K (.bool (p x)) → S [x.d] K) (hlen : rs.length ≤ 9223372036854775807) :
    DCalls Try.prog 47 [.d (rsD rs), .clo S] fun y => y = .bool (rs.any p) := by
  refine dcalls_intro Ty.mixed Try.func47 rfl rfl rfl [] (by kernel_rfl) (by simp) ?_
  simp
  refine .dval (c_idxRoad rs S p hS hlen) rfl (by simp) rfl ?_
  simp
  exact idxI_any p rs

/-- Are the roads valid? -/
def okRoads (n : Int) (rs : List Rd) : Bool := inR n 1 40 && decide ((rs.length : Int) ≤ 60) && !rs.any (Rd.bad n)

theorem c_RoadsValid (n : Int) (rs : List Rd) (hlen : rs.length ≤ 9223372036854775807) : DCalls Try.prog 17 [.d (roadsD n rs)] fun y => y = .bool (okRoads n rs) := by
  refine dcalls_intro Ty.mixed Try.func17 rfl rfl rfl [1] (by kernel_rfl) (by simp) ?_
  simp [roadsD]
  refine .dval (c_within _ _ _) rfl (by simp) rfl ?_
  simp [rsD]
  refine .flat (fun _ => c_hasRoad rs _ (Rd.bad n) ?_ hlen) rfl (by simp) rfl (by simp) ?_
  · intro x _ K hK
    exact ⟨_, c_RV1 x n _, by rintro r rfl; rfl, by rintro r rfl; exact hK⟩
  · simp [okRoads]

theorem c_sRoadsValid (n : Int) (rs : List Rd) (hlen : rs.length ≤ 9223372036854775807) : DCalls Try.prog 15 [.d (roadsD n rs)] fun y => y = .bool (okRoads n rs) := by
  refine dcalls_intro Ty.mixed Try.func15 rfl rfl rfl [1] (by kernel_rfl) (by simp) ?_
  simp [roadsD]
  refine LoopVC.at { i : Nat // i ≤ rs.length ∧ ∀ j (h : j < rs.length), j < i → rs[j].bad n = false } (fun i => [(1, .dp [iA n, .d (rsD rs)]), (3, iA i.1)]) (fun _ => []) [] (fun i => rs.length - i.1) ⟨0, by simp⟩ (by simp [rsD]) (by simp) ?_
  rintro ⟨i, hi, hp⟩
  rcases Nat.lt_or_ge i rs.length with h | h
  · simp [rsD, h, Rd.d]
    refine .dval (c_l1In _ _ _) rfl (by simp) rfl ?_
    simp
    refine .flat (fun _ => c_l1In _ _ _) rfl (by simp) rfl (by simp) ?_
    simp
    refine .flat (fun _ => c_l1In _ _ _) rfl (by simp) rfl (by simp) ?_
    simp
    refine .flat (fun _ => c_l1In _ _ _) rfl (by simp) rfl (by simp) ?_
    simp
    refine ⟨fun hb => ?_, fun h1 h2 h3 h4 => ⟨i + 1, .mk (by simp; exact wrap64 (by omega) (by omega)) (by simp), ⟨h, fun j hj hji => ?_⟩, by omega⟩⟩
    · have hbad : rs[i].bad n = true := by simpa [Rd.bad] using hb
      have : rs.any (Rd.bad n) = true := List.any_eq_true.2 ⟨_, List.getElem_mem h, hbad⟩
      simp [okRoads, this]
    · rcases Nat.lt_or_ge j i with h5 | h5
      · exact hp j hj h5
      · have : j = i := by omega
        subst this; simp [Rd.bad, h1, h2, h3, h4]
  · simp [rsD, Nat.not_lt.2 h]
    refine .dval (c_l1In _ _ _) rfl (by simp) rfl ?_
    simp
    have : rs.any (Rd.bad n) = false := by
      rw [List.any_eq_false]
      intro x hx
      obtain ⟨j, hj, rfl⟩ := List.mem_iff_getElem.1 hx
      rw [hp j hj (by omega)]; simp
    simp [okRoads, this]

/-! ### Copies, equality and sizes of roads -/

theorem c_toRoad (r : Rd) : DCalls Try.prog 75 [.d r.d] fun y => y = r.d := by
  refine dcalls_intro Ty.mixed Try.func75 rfl rfl rfl [1] (by kernel_rfl) (by simp) ?_
  simp [Rd.d]

theorem c_eqRoad (r s : Rd) : DCalls Try.prog 77 [.d r.d, .d s.d] fun y => y = .bool (decide (r = s)) := by
  refine dcalls_intro Ty.mixed Try.func77 rfl rfl rfl [2, 3] (by kernel_rfl) (by simp) ?_
  simp [Rd.d]
  cases r; cases s
  simp
  grind

theorem c_szRoadS (rs : List Rd) (left : Int) : DCalls Try.prog 43 [.d (rsD rs), iA left] fun y => y = iD (if IntKind.i64.wrap (left - rs.length) < 0 then -1 else IntKind.i64.wrap (left - rs.length)) := by
  refine dcalls_intro Ty.mixed Try.func43 rfl rfl rfl [] (by kernel_rfl) (by simp) ?_
  simp [rsD]
  omega

theorem c_szRoads (n : Int) (rs : List Rd) (left : Int) : DCalls Try.prog 14 [.d (roadsD n rs), iA left] fun y => y = iD (if IntKind.i64.wrap (left - rs.length) < 0 then -1 else IntKind.i64.wrap (left - rs.length)) := by
  refine dcalls_intro Ty.mixed Try.func14 rfl rfl rfl [2] (by kernel_rfl) (by simp) ?_
  simp [roadsD]
  refine .dval (c_szRoadS rs left) rfl (by simp) rfl ?_
  simp
  omega

/-- A row that is being filled. -/
def mixL (xs : List D) (z : D) (i : Nat) : List D := xs.take i ++ List.replicate (xs.length - i) z
theorem mixL_zero (xs : List D) (z : D) : mixL xs z 0 = List.replicate xs.length z := by simp [mixL]
theorem mixL_len {xs : List D} {z : D} {i : Nat} (h : i ≤ xs.length) : (mixL xs z i).length = xs.length := by simp [mixL]; omega
theorem mixL_all {xs : List D} {z : D} {i : Nat} (h : xs.length ≤ i) : mixL xs z i = xs := by simp [mixL, List.take_of_length_le h, Nat.sub_eq_zero_of_le h]
theorem mixL_set {xs : List D} {z : D} {i : Nat} (h : i < xs.length) : (mixL xs z i).set i xs[i] = mixL xs z (i + 1) := by
  have h1 : (xs.take i).length = i := by simp; omega
  unfold mixL
  rw [List.set_append, if_neg (by omega), h1, Nat.sub_self, List.take_add_one, List.getElem?_eq_getElem h]
  obtain ⟨k, hk⟩ : ∃ k, xs.length - i = k + 1 := ⟨xs.length - i - 1, by omega⟩
  rw [hk, show xs.length - (i + 1) = k by omega, List.replicate_succ]
  simp only [List.set_cons_zero, Option.toList_some, List.append_assoc, List.singleton_append, List.cons_append, List.nil_append]

theorem c_toRoadS (rs : List Rd) (hlen : rs.length ≤ 1048576) : DCalls Try.prog 45 [.d (rsD rs)] fun y => y = rsD rs := by
  refine dcalls_intro Ty.mixed Try.func45 rfl rfl rfl [] (by kernel_rfl) (by simp) ?_
  simp [rsD]
  refine ⟨by omega, ?_⟩
  refine LoopVC.at { i : Nat // i ≤ rs.length } (fun i => [(0, .d (rsD rs)), (3, .sl 4 700 0 rs.length), (4, iA i.1)]) (fun i => [(700, .ar 4 (mixL (rs.map Rd.d) (.agg [iD 0, iD 0, iD 0, iD 0]) i.1))]) [700] (fun i => rs.length - i.1) ⟨0, by simp⟩ (by simp [rsD]) (by simp [mixL_zero]) ?_
  rintro ⟨i, hi⟩
  rcases Nat.lt_or_ge i rs.length with h | h
  · have hl : (mixL (rs.map Rd.d) (.agg [iD 0, iD 0, iD 0, iD 0]) i).length = rs.length := by rw [mixL_len (by simpa using hi)]; simp
    simp [rsD, h, Rd.d]
    refine .dval (c_toRoad rs[i]) rfl (by simp) rfl ?_
    simp [Rd.d, hl, h]
    refine ⟨i + 1, .mk (by simp; exact wrap64 (by omega) (by omega)) (by simp; rw [← mixL_set (by simpa using h)]; simp [Rd.d]), h, by omega⟩
  · simp [rsD, Nat.not_lt.2 h]
    rw [mixL_all (by simpa using h)]
    exact ⟨Nat.le_of_eq (List.length_map _).symm, List.take_of_length_le (Nat.le_of_eq (List.length_map _))⟩

theorem c_toRoads (n : Int) (rs : List Rd) (hlen : rs.length ≤ 1048576) : DCalls Try.prog 16 [.d (roadsD n rs)] fun y => y = roadsD n rs := by
  refine dcalls_intro Ty.mixed Try.func16 rfl rfl rfl [1] (by kernel_rfl) (by simp) ?_
  simp [roadsD]
  refine .ddat (c_toRoadS rs hlen) rfl (by simp) ?_
  rintro _ rfl
  simp [rsD]

theorem c_eqRoadS (rs ss : List Rd) (h1 : rs.length ≤ 9223372036854775807) : DCalls Try.prog 50 [.d (rsD rs), .d (rsD ss)] fun y => y = .bool (decide (rs = ss)) := by
  refine dcalls_intro Ty.mixed Try.func50 rfl rfl rfl [] (by kernel_rfl) (by simp) ?_
  simp [rsD]
  refine ⟨fun hne e => hne (by rw [e]), fun hlen => ?_⟩
  refine LoopVC.at { i : Nat // i ≤ rs.length ∧ ∀ j (h : j < rs.length), j < i → ∃ h' : j < ss.length, rs[j] = ss[j] } (fun i => [(0, .d (rsD rs)), (1, .d (rsD ss)), (5, iA i.1)]) (fun _ => []) [] (fun i => rs.length - i.1) ⟨0, by simp⟩ (by simp [rsD]) (by simp) ?_
  rintro ⟨i, hi, hp⟩
  rcases Nat.lt_or_ge i rs.length with h | h
  · have h' : i < ss.length := by omega
    simp [rsD, h]
    refine .one (sch [.pur 0, .pur 1, .pur 2, .pur 3, .pur 4, .pur 5, .pur 6, .pur 7, .eff 8 [], .pur 9]) (by kernel_rfl) ?_
    simp [h, h', Rd.d]
    refine .dval (c_eqRoad rs[i] ss[i]) rfl (by simp) rfl ?_
    simp
    refine ⟨fun hne e => hne (by subst e; rfl), fun he => ⟨i + 1, .mk (by simp; exact wrap64 (by omega) (by omega)) (by simp), ⟨h, fun j hj hji => ?_⟩, by omega⟩⟩
    rcases Nat.lt_or_ge j i with h2 | h2
    · exact hp j hj h2
    · have : j = i := by omega
      subst this; exact ⟨h', he⟩
  · simp [rsD, Nat.not_lt.2 h]
    refine List.ext_getElem (by omega) fun j hj hj' => ?_
    obtain ⟨_, he⟩ := hp j hj (by omega)
    exact he

theorem c_eqRoads (n m : Int) (rs ss : List Rd) (h1 : rs.length ≤ 9223372036854775807) : DCalls Try.prog 18 [.d (roadsD n rs), .d (roadsD m ss)] fun y => y = .bool (decide (n = m ∧ rs = ss)) := by
  refine dcalls_intro Ty.mixed Try.func18 rfl rfl rfl [2, 3] (by kernel_rfl) (by simp) ?_
  simp [roadsD]
  refine ⟨fun h e => absurd e h, fun h => ?_⟩
  refine .dval (c_eqRoadS rs ss h1) rfl (by simp) rfl ?_
  simp [h]

/-! ### The law -/

theorem c_FnExactRoadsValid (n : Int) (rs : List Rd) (h1 : rs.length ≤ 9223372036854775807) : DCalls Try.prog 3 [.d (roadsD n rs)] fun y => y = .bool true := by
  refine dcalls_intro Ty.mixed Try.func3 rfl rfl rfl [1] (by kernel_rfl) (by simp) ?_
  simp [roadsD]
  refine .dval (c_szRoads n rs _) rfl (by simp) rfl ?_
  rw [wrap64 (by omega) (by omega)]
  simp
  intro hz
  have h2 : rs.length ≤ 1048576 := by
    split at hz <;> omega
  refine .ddat (c_toRoads n rs h2) rfl (by simp) ?_
  rintro _ rfl
  simp
  refine .dval (c_sRoadsValid n rs h1) rfl (by simp) rfl ?_
  simp
  refine .ddat (c_toRoads n rs h2) rfl (by simp) ?_
  rintro _ rfl
  simp [roadsD, rsD]
  refine .dval (c_RoadsValid n rs h1) rfl (by simp) rfl ?_
  simp
  refine .one (sch [.pur 0, .pur 1, .eff 2 [0], .eff 3 [], .pur 4]) (by kernel_rfl) ?_
  simp
  refine .ddat (c_toRoads n rs h2) rfl (by simp) ?_
  rintro _ rfl
  simp
  refine .dval (c_eqRoads n n rs rs h1) rfl (by simp) rfl ?_
  simp

end Go.Fw
