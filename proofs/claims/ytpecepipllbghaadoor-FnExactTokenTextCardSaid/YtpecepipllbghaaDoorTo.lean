/- Texts with numbers, exactly. -/
import Derived.Test.YtpecepipllbghaaDoorTm
import Derived.Test.YtpecepipllbghaaDoorMc
set_option linter.unusedSimpArgs false
set_option linter.unusedVariables false
namespace Go.Fw
open Go Go.Proofs
set_option linter.unusedSectionVars false
set_option linter.unnecessarySimpa false

theorem c_szDfaS (xs : List Df) (left : Int) (hl : 0 ≤ left ∧ left ≤ 1048576) (h : xs.length ≤ 9223372036854775807) (hx : ∀ x ∈ xs, x.fine) : DCalls Tryd.prog 10 [.d (dsD xs), iA left] fun y => ∃ v, y = iD v ∧ leftOk left v (xs.length ≤ 1048576 ∧ ∀ x ∈ xs, x.small) := by
  refine dcalls_intro Ty.mixed Tryd.func10 rfl rfl rfl [] (by kernel_rfl) (by simp) ?_
  have e : IntKind.i64.wrap (left - xs.length) = left - xs.length := wrap64 (by omega) (by omega)
  simp [e]
  refine ⟨fun _ => by simp [leftOk]; omega, fun h1 => ?_⟩
  refine LoopVC.at { p : Nat × Int // p.1 ≤ xs.length ∧ 0 ≤ p.2 ∧ p.2 ≤ left ∧ ∀ j (h : j < xs.length), j < p.1 → xs[j].small } (fun p => [(0, .d (dsD xs)), (1, iA p.1.2), (5, iA p.1.1)]) (fun _ => []) [] (fun p => xs.length - p.1.1) ⟨(0, left - xs.length), by simp; omega⟩ (by simp) (by simp) ?_
  rintro ⟨⟨i, l⟩, hi, h2, h3, hp⟩
  simp only at hi h2 h3 hp
  rcases Nat.lt_or_ge i xs.length with h' | h'
  · have hb := hx _ (List.getElem_mem h')
    simp [h', Df.d]
    refine .ddat (c_szDfa xs[i] l (by omega) hb) rfl (by simp [Df.d]) ?_
    rintro _ ⟨v, rfl, h4, h5, h6⟩
    simp [h']
    refine ⟨fun _ => by simp [leftOk]; omega, fun h7 => ⟨i + 1, v, .mk (by simp; exact wrap64 (by omega) (by omega)) (by simp), ⟨h', by omega, by omega, upto_succ hp h' (h6 h7)⟩, by omega⟩⟩
  · simp [Nat.not_lt.2 h', leftOk]
    refine ⟨by omega, h3, fun _ => ⟨by omega, fun x hm => ?_⟩⟩
    obtain ⟨j, hj, rfl⟩ := List.mem_iff_getElem.1 hm
    exact hp j hj (by omega)

theorem c_toDfaS (xs : List Df) (hlen : xs.length ≤ 1048576) (hx : ∀ x ∈ xs, x.small) : DCalls Tryd.prog 11 [.d (dsD xs)] fun y => y = dsD xs := by
  refine dcalls_intro Ty.mixed Tryd.func11 rfl rfl rfl [] (by kernel_rfl) (by simp) ?_
  simp
  refine ⟨by omega, ?_⟩
  refine LoopVC.at { i : Nat // i ≤ xs.length } (fun i => [(0, .d (dsD xs)), (3, .sl 2 700 0 xs.length), (4, iA i.1)]) (fun i => [(700, .ar 2 (mixL (xs.map Df.d) (.agg [.list [], .list []]) i.1))]) [700] (fun i => xs.length - i.1) ⟨0, by simp⟩ (by simp) (by simp [mixL_zero]) ?_
  rintro ⟨i, hi⟩
  rcases Nat.lt_or_ge i xs.length with h | h
  · have hl : (mixL (xs.map Df.d) (.agg [.list [], .list []]) i).length = xs.length := by rw [mixL_len (by simpa using hi)]; simp
    simp [h, hl, Df.d]
    refine .ddat (c_toDfa xs[i] (hx _ (List.getElem_mem h))) rfl (by simp [Df.d]) ?_
    rintro _ rfl
    simp [h, hl, Df.d]
    refine ⟨i + 1, .mk (by simp; exact wrap64 (by omega) (by omega)) (by simp; rw [← mixL_set (by simpa using h)]; simp [Df.d]), h, by omega⟩
  · simp [Nat.not_lt.2 h]
    rw [mixL_all (by simpa using h)]
    exact ⟨Nat.le_of_eq (List.length_map _).symm, List.take_of_length_le (Nat.le_of_eq (List.length_map _))⟩

theorem c_eqDfaS (xs ys : List Df) (h1 : xs.length ≤ 9223372036854775807) (hx : ∀ x ∈ xs, x.small) : DCalls Tryd.prog 12 [.d (dsD xs), .d (dsD ys)] fun y => y = .bool (decide (xs = ys)) := by
  refine dcalls_intro Ty.mixed Tryd.func12 rfl rfl rfl [] (by kernel_rfl) (by simp) ?_
  simp
  refine ⟨fun hne e => hne (by rw [e]), fun hlen => ?_⟩
  refine LoopVC.at { i : Nat // i ≤ xs.length ∧ ∀ j (h : j < xs.length), j < i → ∃ h' : j < ys.length, xs[j] = ys[j] } (fun i => [(0, .d (dsD xs)), (1, .d (dsD ys)), (5, iA i.1)]) (fun _ => []) [] (fun i => xs.length - i.1) ⟨0, by simp⟩ (by simp) (by simp) ?_
  rintro ⟨i, hi, hp⟩
  rcases Nat.lt_or_ge i xs.length with h | h
  · have h' : i < ys.length := by omega
    simp [h]
    refine .one (sch [.pur 0, .pur 1, .pur 2, .pur 3, .pur 4, .pur 5, .pur 6, .pur 7, .eff 8 [], .pur 9]) (by kernel_rfl) ?_
    simp [h, h', Df.d]
    refine .dval (c_eqDfa xs[i] ys[i] (hx _ (List.getElem_mem h))) rfl (by simp [Df.d]) rfl ?_
    simp
    refine ⟨fun hne e => hne (by subst e; rfl), fun he => ⟨i + 1, .mk (by simp; exact wrap64 (by omega) (by omega)) (by simp), ⟨h, upto_succ hp h ⟨h', he⟩⟩, by omega⟩⟩
  · simp [Nat.not_lt.2 h]
    refine List.ext_getElem (by omega) fun j hj hj' => ?_
    obtain ⟨_, he⟩ := hp j hj (by omega)
    exact he

set_option maxRecDepth 100000 in
theorem c_FnExactTokenText (ds : List Df) (s : List UInt8) (hd : ds.length ≤ 9223372036854775807 ∧ ∀ a ∈ ds, a.fine) (hs' : s.length ≤ 9223372036854775807) : DCalls Tryd.prog 4 [.d (dsD ds), sA s] fun y => y = .bool true := by
  refine dcalls_intro Ty.mixed Tryd.func4 rfl rfl rfl [] (by kernel_rfl) (by simp) ?_
  simp
  intro h20
  refine .ddat (c_szDfaS ds 1048576 (by omega) hd.1 hd.2) rfl (by simp) ?_
  rintro _ ⟨v, rfl, h4, h5, h6⟩
  simp
  intro h7
  obtain ⟨h8, h9⟩ := h6 h7
  refine .ddat (c_toDfaS ds h8 h9) rfl (by simp) ?_
  rintro _ rfl
  simp
  refine .ddat (c_sTokenText ds s hd.1 hd.2 hs') rfl (by simp) ?_
  rintro _ ⟨x, rfl, hx⟩
  have hI : DCalls Tryd.prog 6 [.d (dsD ds), sA s] fun y => y = sD x := dmono (c_TokenText ds s hd.1 hd.2 hs') fun y ⟨r, h1, h2⟩ => by rw [h1, h2.uniq hx]
  simp
  refine .ddat (c_toDfaS ds h8 h9) rfl (by simp) ?_
  rintro _ rfl
  simp
  refine .dval hI rfl (by simp) rfl ?_
  simp
  refine .ddat (c_toDfaS ds h8 h9) rfl (by simp) ?_
  rintro _ rfl
  simp
  refine .dval (c_eqDfaS ds ds hd.1 h9) rfl (by simp) rfl ?_
  simp
end Go.Fw
