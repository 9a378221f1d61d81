/- The law about texts with numbers. -/
import Derived.Test.YtpecepipllbghaaDoorTkn
import Derived.Test.YtpecepipllbghaaDoorTm
set_option linter.unusedSimpArgs false
set_option linter.unusedVariables false
namespace Go.Fw
open Go Go.Proofs
set_option linter.unusedSectionVars false
set_option linter.unnecessarySimpa false

def isDg (b : UInt8) : Bool := decide (48 ≤ b.toNat) && decide (b.toNat ≤ 57)
theorem dig_is (p : Nat) (h : p < 10) : isDg (digB p) = true := by
  have : ∀ n : Fin 10, isDg (digB n.1) = true := by decide
  exact this ⟨p, h⟩
theorem let_not {b : UInt8} (h : isL b = true) : isDg b = false := by
  simp [isL, inR] at h
  simp [isDg]
  omega
theorem lets_filter {s : List UInt8} (h : ∀ b ∈ s, isL b = true) : s.filter (fun b => !isDg b) = s := List.filter_eq_self.2 fun b hb => by rw [let_not (h b hb)]; rfl
theorem lets_count {s : List UInt8} (h : ∀ b ∈ s, isL b = true) : s.countP isDg = 0 := List.countP_eq_zero.2 fun b hb => by rw [let_not (h b hb)]; simp
theorem txK_is {ds : List Df} {s : List UInt8} (hs : ∀ b ∈ s, isL b = true) (h4 : ds.length ≤ 4) : ∀ k, (∀ j, j < k → tkOk ds s (atK ds s j) = true) → (txK ds s k).filter (fun b => !isDg b) = s.take (atK ds s k) ∧ (txK ds s k).countP isDg = k
  | 0, _ => ⟨rfl, rfl⟩
  | k + 1, h => by
    obtain ⟨e1, e2⟩ := txK_is hs h4 k fun j hj => h j (by omega)
    have h1 := atK_inc (h k (by omega))
    have hb := tk_bd ds s (atK_le ds s k) ds.length
    obtain ⟨p, hp⟩ : ∃ p : Nat, (tk ds s (atK ds s k) ds.length).p = p := ⟨(tk ds s (atK ds s k) ds.length).p.toNat, by omega⟩
    have hd := dig_is p (by omega)
    have hpart : ∀ b ∈ (s.take (atK ds s (k + 1))).drop (atK ds s k), isL b = true := fun b hb => hs b (List.mem_of_mem_take (List.mem_of_mem_drop hb))
    have ht : s.take (atK ds s (k + 1)) = s.take (atK ds s k) ++ (s.take (atK ds s (k + 1))).drop (atK ds s k) := by
      conv => lhs; rw [← List.take_append_drop (atK ds s k) (s.take (atK ds s (k + 1)))]
      rw [List.take_take, Nat.min_eq_left (by omega)]
    rw [txK_succ, hp]
    refine ⟨?_, ?_⟩
    · rw [List.filter_append, List.filter_append, e1, lets_filter hpart]
      conv => rhs; rw [ht]
      simp [hd]
    · rw [List.countP_append, List.countP_append, e2, lets_count hpart]
      simp [hd]
theorem tx_is {ds : List Df} {s : List UInt8} (hs : ∀ b ∈ s, isL b = true) (h4 : ds.length ≤ 4) {k : Nat} (h : ∀ j, j < k → tkOk ds s (atK ds s j) = true) : (txK ds s k ++ s.drop (atK ds s k)).filter (fun b => !isDg b) = s ∧ (txK ds s k ++ s.drop (atK ds s k)).countP isDg = k := by
  obtain ⟨e1, e2⟩ := txK_is hs h4 k h
  have hpart : ∀ b ∈ s.drop (atK ds s k), isL b = true := fun b hb => hs b (List.mem_of_mem_drop hb)
  rw [List.filter_append, List.countP_append, e1, e2, lets_filter hpart, lets_count hpart]
  exact ⟨List.take_append_drop _ _, rfl⟩
theorem take_filter {x : List UInt8} {j : Nat} (h : j < x.length) (f : UInt8 → Bool) : (x.take (j + 1)).filter f = (x.take j).filter f ++ if f x[j] then [x[j]] else [] := by
  rw [List.take_succ_eq_append_getElem h, List.filter_append]
  simp [List.filter_cons]
theorem take_count {x : List UInt8} {j : Nat} (h : j < x.length) (f : UInt8 → Bool) : (x.take (j + 1)).countP f = (x.take j).countP f + if f x[j] then 1 else 0 := by
  rw [List.take_succ_eq_append_getElem h, List.countP_append]
  simp [List.countP_cons]
theorem one_part {x : List UInt8} {j : Nat} (h : j < x.length) : (x.take (j + 1)).drop j = [x[j]] := by
  rw [List.take_succ_eq_append_getElem h, List.drop_append_of_le_length (by simp; omega)]
  simp [List.drop_take]

set_option maxRecDepth 100000 in
theorem c_DrawTokenText (code : List UInt8) : TCalls Tryd.prog 5 [.d (.list (codeD code))] fun y => ∃ (ds : List Df) (s : List UInt8), y = [dsD ds, sD s] ∧ ds.length ≤ 5 ∧ (∀ a ∈ ds, a.tiny) ∧ s.length ≤ 200 := by
  refine tcalls_intro Ty.mixed Tryd.func5 rfl rfl rfl [] (by kernel_rfl) (by simp) ?_
  simp
  refine .tdat (c_DrawTokens code) rfl (by simp) ?_
  rintro _ ⟨ds, s, rfl, hd, ht, hs⟩
  simp
  exact ⟨ds, s, ⟨rfl, rfl⟩, hd, ht, hs⟩

set_option maxHeartbeats 800000 in
set_option maxRecDepth 100000 in
theorem c_FnTokenText (code : List UInt8) (hl : code.length ≤ 9223372036854775807) : DCalls Tryd.prog 3 [.d (.list (codeD code))] fun y => y = .bool true := by
  refine dcalls_intro Ty.mixed Tryd.func3 rfl rfl rfl [] (by kernel_rfl) (by simp) ?_
  simp [codeD_lenD]
  intro h20
  refine .tdat (c_DrawTokenText code) rfl (by simp) ?_
  rintro _ ⟨ds, s, rfl, hd, ht, hs⟩
  have hdf : ∀ a ∈ ds, a.fine := fun a ha => (ht a ha).fine
  simp
  refine .ddat (c_TokenText ds s (by omega) hdf (by omega)) rfl (by simp) ?_
  rintro _ ⟨x, rfl, hx⟩
  have hS : DCalls Tryd.prog 7 [.d (dsD ds), sA s] fun y => y = sD x := dmono (c_sTokenText ds s (by omega) hdf (by omega)) fun y ⟨r, h1, h2⟩ => by rw [h1, h2.uniq hx]
  simp
  refine .dval hS rfl (by simp) rfl ?_
  simp
  refine .tdat (c_Tokens ds s (by omega) hdf (by omega)) rfl (by simp) ?_
  intro r hr
  rcases hr with ⟨⟨h1, h2⟩, k, hk, rfl⟩ | ⟨hno, rfl⟩
  · have hx := hx.uniq (.inl ⟨⟨h1, h2⟩, k, hk, rfl⟩)
    obtain ⟨e1, e2⟩ := tx_is (List.all_eq_true.1 (letters_all h2)) (okPats_len h1).2 hk.1
    rw [← hx] at e1 e2
    have htl := toksD_len ds s k
    have hwl : (s.length : Int) ≤ 30 := letters_len h2
    have hxl : x.length ≤ 100 := by
      rw [hx, List.length_append, txK_len ds s k hk.1, List.length_drop]
      have := atK_ge hk.1
      have := atK_le ds s k
      omega
    clear hx
    simp [show ¬ ((atK ds s k : Int) < 0) by omega]
    refine LoopVC.at { j : Nat // j ≤ x.length } (fun j => [(4, sA s), (5, sA x), (6, .d (.list (toksD ds s k))), (8, sA ((x.take j.1).filter fun b => !isDg b)), (9, iA ((x.take j.1).countP isDg : Nat)), (10, iA j.1)]) (fun _ => []) [] (fun j => x.length - j.1) ⟨0, by omega⟩ (by simp) (by simp) ?_
    rintro ⟨j, hj⟩
    have hfl : ((x.take j).filter fun b => !isDg b).length ≤ j := Nat.le_trans (List.length_filter_le _ _) (by simp; omega)
    have hcl : (x.take j).countP isDg ≤ j := Nat.le_trans List.countP_le_length (by simp; omega)
    rcases Nat.lt_or_ge j x.length with hjk | hjk
    · have f1 := take_filter hjk fun b => !isDg b
      have f2 := take_count hjk isDg
      have f3 := one_part hjk
      generalize (x.take j).filter (fun b => !isDg b) = A at *
      generalize (x.take j).countP isDg = C at *
      have hwj : IntKind.i64.wrap ((j : Int) + 1) = ((j + 1 : Nat) : Int) := by rw [wrap64 (by omega) (by omega)]; omega
      have hwc : IntKind.i64.wrap ((C : Int) + 1) = ((C + 1 : Nat) : Int) := by rw [wrap64 (by omega) (by omega)]; omega
      simp [hjk, hwj, hwc]
      refine ⟨fun g1 g2 => ?_, fun g => ?_⟩
      · have hd : isDg x[j] = true := by simp [isDg]; omega
        simp [hd] at f1 f2
        exact ⟨j + 1, .mk (by simp [f1, f2]) (by simp), by omega, by omega⟩
      · have hd : isDg x[j] = false := by
          rw [Bool.eq_false_iff]
          intro hc
          simp [isDg] at hc
          have := g (by omega)
          omega
        simp [hd] at f1 f2
        refine ⟨by omega, by omega, j + 1, .mk (by simp [f1, f2, f3]) (by simp), by omega, by omega⟩
    · have : j = x.length := by omega
      subst this
      simp at hfl hcl ⊢
      simp [e1, e2, htl]
  · simp
    refine .flat (fun _ => c_alive) rfl (by simp) rfl (by simp) ?_
    rcases hx with ⟨h, _⟩ | ⟨_, rfl⟩
    · exact absurd h hno
    · simp
end Go.Fw
