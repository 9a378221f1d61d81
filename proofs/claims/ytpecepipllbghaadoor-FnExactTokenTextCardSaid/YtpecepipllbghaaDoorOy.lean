/- Patterns. -/
import Derived.Test.YtpecepipllbghaaDoorOu
import Derived.Test.YtpecepipllbghaaDoorOm
import Derived.Test.YtpecepipllbghaaDoorLk
set_option linter.unusedSimpArgs false
set_option linter.unusedVariables false
namespace Go.Fw
open Go Go.Proofs
set_option linter.unusedSectionVars false
set_option linter.unnecessarySimpa false

theorem selC_act {P : Program} {fz : List Nat} {σ : AS} {dst : Option Nat} {op : Op} {K : AS → Prop} (h : vcAct P fz σ dst op K) : vcSelC P fz σ dst op true K := .inl ⟨fun _ => h, fun h => by cases h⟩

abbrev dsD (ds : List Df) : D := .list (ds.map Df.d)
def okPats (ds : List Df) : Bool := inR ds.length 1 4 && ds.all okDf

theorem c_idxDfa (rs : List Df) (S : List D → (D → Prop) → Prop) (p : Df → Bool) (hS : ∀ x ∈ rs, ∀ K : D → Prop, K (.bool (p x)) → S [x.d] K) (hlen : rs.length ≤ 9223372036854775807) :
    DCalls Tryd.prog 53 [.d (dsD rs), .clo S] fun y => y = iD (idxI p rs) := by
  refine dcalls_intro Ty.mixed Tryd.func53 rfl rfl rfl [] (by kernel_rfl) (by simp) ?_
  simp
  refine LoopVC.at { i : Nat // i ≤ rs.length ∧ ∀ j (h : j < rs.length), j < i → p rs[j] = false } (fun i => [(0, .d (dsD rs)), (1, .clo S), (7, iA rs.length), (8, iA i.1)]) (fun _ => []) [] (fun i => rs.length - i.1) ⟨0, by simp⟩ (by simp) (by simp) ?_
  rintro ⟨i, hi, hp⟩
  rcases Nat.lt_or_ge i rs.length with h | h
  · simp [h, Df.d]
    refine hS rs[i] (List.getElem_mem h) _ ?_
    simp
    refine ⟨fun ht => (idxI_found h hp ht).symm, fun hf => ⟨i + 1, .mk (by simp; exact wrap64 (by omega) (by omega)) (by simp), ⟨h, upto_succ hp h hf⟩, by omega⟩⟩
  · simp [Nat.not_lt.2 h]
    exact (idxI_none h hp).symm
theorem c_hasDfa (rs : List Df) (S : List D → (D → Prop) → Prop) (p : Df → Bool) (hS : ∀ x ∈ rs, ∀ K : D → Prop, K (.bool (p x)) → S [x.d] K) (hlen : rs.length ≤ 9223372036854775807) :
    DCalls Tryd.prog 31 [.d (dsD rs), .clo S] fun y => y = .bool (rs.any p) := by
  refine dcalls_intro Ty.mixed Tryd.func31 rfl rfl rfl [] (by kernel_rfl) (by simp) ?_
  simp
  refine .dval (c_idxDfa rs S p hS hlen) rfl (by simp) rfl ?_
  simp
  exact idxI_any p rs
theorem c_PV1 (a : Df) (h : a.fine) : DCalls Tryd.prog 32 [.d a.d] fun y => y = .bool (!okDf a) := by
  refine dcalls_intro Ty.mixed Tryd.func32 rfl rfl rfl [1] (by kernel_rfl) (by simp) ?_
  simp [Df.d]
  refine .dval (c_DfaValid a h) rfl (by simp [Df.d]) rfl ?_
  simp
theorem any_not (ds : List Df) : ds.any (fun a => !okDf a) = !ds.all okDf := by
  rw [Bool.eq_iff_iff]; simp [List.all_eq_false]

theorem c_PatternsValid (ds : List Df) (hlen : ds.length ≤ 9223372036854775807) (h : ∀ a ∈ ds, a.fine) : DCalls Tryd.prog 16 [.d (dsD ds)] fun y => y = .bool (okPats ds) := by
  refine dcalls_intro Ty.mixed Tryd.func16 rfl rfl rfl [] (by kernel_rfl) (by simp) ?_
  simp
  refine .dval (c_within _ _ _) rfl (by simp) rfl ?_
  simp
  refine .flat (fun _ => c_hasDfa ds _ (fun a => !okDf a) ?_ hlen) rfl (by simp) rfl (by simp) ?_
  · intro x hx K hK
    exact ⟨_, c_PV1 x (h x hx), by rintro r rfl; rfl, by rintro r rfl; exact hK⟩
  · simp [okPats, any_not]

theorem c_sPatternsValid (ds : List Df) (hlen : ds.length ≤ 9223372036854775807) (h : ∀ a ∈ ds, a.fine) : DCalls Tryd.prog 27 [.d (dsD ds)] fun y => y = .bool (okPats ds) := by
  refine dcalls_intro Ty.mixed Tryd.func27 rfl rfl rfl [] (by kernel_rfl) (by simp) ?_
  simp
  refine LoopVC.at { i : Nat // i ≤ ds.length ∧ ∀ j (h : j < ds.length), j < i → okDf ds[j] = true } (fun i => [(0, .d (dsD ds)), (3, iA i.1)]) (fun _ => []) [] (fun i => ds.length - i.1) ⟨0, by simp⟩ (by simp) (by simp) ?_
  rintro ⟨i, hi, hp⟩
  rcases Nat.lt_or_ge i ds.length with h' | h'
  · simp [h', Df.d]
    refine .dval (c_sDfaValid ds[i] (h _ (List.getElem_mem h'))) rfl (by simp [Df.d]) rfl ?_
    simp
    refine ⟨fun hb => ?_, fun hb => ⟨i + 1, .mk (by simp; exact wrap64 (by omega) (by omega)) (by simp), ⟨h', upto_succ hp h' hb⟩, by omega⟩⟩
    simp [okPats, all_false h' hb]
  · simp [Nat.not_lt.2 h']
    refine .dval (c_l1In _ _ _) rfl (by simp) rfl ?_
    simp [okPats, all_true h' hp]

structure PG where
  j : Int
  ds : List Df
  q : Int

theorem drew_ps (code : List UInt8) {p q : Int} (h1 : p ≤ q) (h2 : q ≤ p + 700) (ds : List Df) {L : List D} (hL : L = ds.map Df.d) (h5 : ds.length ≤ 5) (ht : ∀ a ∈ ds, a.tiny) :
    ∃ b' : List D, [AV.d (D.list (codeD code)), AV.d (iD q)] = List.map AV.d b' ∧ Drew code p 700 (fun r => ∃ ds : List Df, r = RV.one (dsD ds) ∧ ds.length ≤ 5 ∧ ∀ a ∈ ds, a.tiny) (RV.one (D.list L)) b' :=
  ⟨rdB (codeD code) q, rfl, q, rfl, h1, h2, ds, by rw [hL], h5, ht⟩

set_option maxRecDepth 100000 in
theorem d_l20Patterns (code : List UInt8) (hc : code.length ≤ 1048576) (p n : Int) (hp : 0 ≤ p) (hp2 : p ≤ 1099511500000) (hn : -9223372036854775808 ≤ n) :
    RCalls Tryd.prog 24 [iA n] (rdB (codeD code) p) (Drew code p 700 fun r => ∃ ds : List Df, r = .one (dsD ds) ∧ ds.length ≤ 5 ∧ ∀ a ∈ ds, a.tiny) := by
  refine rcalls_intro Ty.mixed Tryd.func24 rfl rfl rfl [] (by kernel_rfl) (by simp) ?_
  simp [rdB]
  refine .lend (b := rdB (codeD code) p) (d_pick code hc p 3 hp (by omega) (by omega)) (by simp [rdB]) (by simp) rfl (by simp) ?_
  rintro _ _ ⟨q, rfl, h1, h2, v, rfl, hv⟩
  obtain ⟨v1, v2, _⟩ := hv
  have v2 := v2 (by omega)
  have hw : IntKind.i64.wrap (1 + v) = 1 + v := wrap64 (by omega) (by omega)
  simp [rdB, hw]
  refine LoopVC.at { g : PG // 0 ≤ g.j ∧ g.j ≤ 1 + v ∧ (g.ds.length : Int) = 1 + v - g.j ∧ (∀ a ∈ g.ds, a.tiny) ∧ p ≤ g.q ∧ g.q ≤ p + 1 + 200 * (1 + v - g.j) } (fun g => [(0, .ptr 1 0), (1, iA n), (5, .sl 2 700 0 g.1.ds.length), (6, iA g.1.j)])
    (fun g => [(1, .bx [.d (.list (codeD code)), iA g.1.q]), (700, .ar 2 (g.1.ds.map Df.d))]) [1, 700] (fun g => g.1.j.toNat) ⟨⟨1 + v, [], q⟩, by show (0 : Int) ≤ 1 + v; omega, Int.le_refl _, by simp, by simp, by show p ≤ q; omega, by show q ≤ p + 1 + 200 * (1 + v - (1 + v)); omega⟩ (by simp) (by simp) ?_
  rintro ⟨⟨j, ds, q⟩, hj0, hjw, hdl, hds, hq1, hq2⟩
  simp only at hj0 hjw hdl hds hq1 hq2
  rcases Int.lt_or_le 0 j with hj | hj
  · simp [hj]
    refine .lend (b := rdB (codeD code) q) (d_l20Finite code hc q 0 (by omega) (by omega) (by omega)) (by simp [rdB]) (by simp) rfl (by simp) ?_
    rintro _ _ ⟨q2, rfl, h5, h6, a, rfl, ha⟩
    simp [rdB, Df.d]
    refine ⟨⟨by omega, by omega⟩, ⟨j - 1, ds ++ [a], q2⟩, .mk ?_ ?_, ⟨by show (0 : Int) ≤ j - 1; omega, by show j - 1 ≤ 1 + v; omega, by simp; omega, ?_, by show p ≤ q2; omega, by show q2 ≤ p + 1 + 200 * (1 + v - (j - 1)); omega⟩, by simp; omega⟩
    · simp; exact wrap64 (by omega) (by omega)
    · simp [Df.d]
    · intro x hx
      rcases List.mem_append.1 hx with hx | hx
      · exact hds x hx
      · rw [List.mem_singleton.1 hx]; exact ha
  · have hj : j = 0 := by omega
    subst hj
    simp
    refine .lend (b := rdB (codeD code) q) (d_odd code hc q n (by omega) (by omega) hn) (by simp [rdB]) (by simp) rfl (by simp) ?_
    rintro _ _ ⟨q1, rfl, a1, a2, w, rfl⟩
    simp [rdB]
    refine ⟨fun hv => ?_, fun hv => ?_⟩
    · refine .lend (b := rdB (codeD code) q1) (d_pick code hc q1 3 (by omega) (by omega) (by omega)) (by simp [rdB]) (by simp) rfl (by simp) ?_
      rintro _ _ ⟨q2, rfl, a3, a4, w, rfl, hw⟩
      obtain ⟨w1, w2, _⟩ := hw
      have w2 := w2 (by omega)
      obtain rfl | rfl | rfl : w = 0 ∨ w = 1 ∨ w = 2 := by omega
      · simp [rdB]
        exact drew_ps code (by omega) (by omega) [] rfl (by simp) (by simp)
      · simp [rdB]
        refine ⟨⟨by omega, by omega⟩, drew_ps code (by omega) (by omega) (ds ++ [⟨[], []⟩]) ?_ (by simp; omega) ?_⟩
        · rw [List.take_of_length_le (by simp)]; simp [Df.d]
        · intro x hx
          rcases List.mem_append.1 hx with hx | hx
          · exact hds x hx
          · rw [List.mem_singleton.1 hx]; exact ⟨by simp, by simp, by simp⟩
      · simp [rdB]
        refine LoopVC.at { E : List Df // 1 ≤ E.length ∧ E.length ≤ 5 ∧ ∀ a ∈ E, a.tiny } (fun E => [(0, .ptr 1 0), (5, .sl 2 700 0 E.1.length)]) (fun E => [(1, .bx [.d (.list (codeD code)), iA q2]), (700, .ar 2 (E.1.map Df.d))]) [1, 700] (fun E => 5 - E.1.length) ⟨ds, by omega, by omega, hds⟩ (by simp) (by simp) ?_
        rintro ⟨E, hE1, hE2, hE3⟩
        cases E with
        | nil => simp at hE1
        | cons e E =>
          simp [Df.d]
          refine ⟨fun h => ?_, fun h => ?_⟩
          · refine ⟨⟨by omega, by omega⟩, e :: E ++ [e], .mk (by simp) (by simp [Df.d]), ⟨by simp, by simp; omega, fun x hx => ?_⟩, by simp at hE2 ⊢; omega⟩
            rcases List.mem_append.1 hx with hx | hx
            · exact hE3 x hx
            · rw [List.mem_singleton.1 hx]; exact hE3 e (by simp)
          · exact drew_ps code (by omega) (by omega) (e :: E) (by rw [List.take_of_length_le (by simp)]; simp [Df.d]) hE2 hE3
    · exact drew_ps code (by omega) (by omega) ds (List.take_of_length_le (by simp)) (by omega) hds

end Go.Fw
